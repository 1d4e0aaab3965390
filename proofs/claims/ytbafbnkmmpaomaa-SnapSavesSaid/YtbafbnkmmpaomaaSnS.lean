/- The fixed answer of chapter 19 (awake). -/
import Derived.Test.YtbafbnkmmpaomaaSnR
import Derived.Test.YtbafbnkmmpaomaaSnCv
import Derived.Test.YtbafbnkmmpaomaaMgA
namespace Go.Proofs.Ytbafbnkmmpaomaa
open Go.RowKit
set_option linter.unusedVariables false
set_option linter.unusedSimpArgs false
attribute [local go_sem ↓] Go.wp_at_zero Go.wp_at_succ
theorem good_save {s : Sn.St} (h : SRS s) (hw : Wide s) (hn : s.es.length ≤ 100000) : Good (Sn.save s) := by
  have ok := ok_srs h hw hn
  exact ⟨Sn.fits_save ok, by rw [Sn.told_save ok]; exact h, by rw [Sn.told_save ok]⟩
theorem good_app {b m : Sn.By} (h : Good b) (hm : m ≠ []) : ¬ Good (b ++ m) := fun g => hm (Sn.fits_app h.1 g.1)
theorem ok_slots {l : List (Bool × Int)} (h : (kd l).isSome = true) : Vt.Ok l := by
  rcases kd_cases l with ⟨d, _, _, h2⟩ | ⟨h1, _⟩
  · exact h2
  · rw [h1] at h; cases h
def sA : Sn.St := { N := 2, L := 1, R := 1, hs := [(3, 4)], es := [(0, 1, 1)], ss := [(true, 9), (true, 5)] }
theorem sA_srs : SRS sA := by
  refine ⟨⟨⟨by decide, by decide, by decide, by decide, by decide, by decide⟩, rfl, ?_, ⟨⟨by decide, by decide⟩, ?_⟩, ?_, ?_⟩, ok_slots (by decide), rfl, ?_⟩
  · intro j h _
    obtain rfl : j = 0 := by simp [sA] at h; omega
    show (3 : Int) < 2305843009213693951 ∧ (4 : Int) < 2305843009213693951
    omega
  · intro j h _
    obtain rfl : j = 0 := by simp [sA] at h; omega
    refine ⟨?_, fun k hk => absurd hk (by omega)⟩
    show (0 : Int) ≤ 0 ∧ (0 : Int) < 1 ∧ (1 : Int) < 2 ∧ (0 : Int) ≤ 1 ∧ (1 : Int) ≤ 16
    omega
  · intro j h _
    obtain rfl : j = 0 := by simp [sA] at h; omega
    show (1 : Int) ≤ 1
    omega
  · have e : frs sA.L sA.es = [(0, 1, 1)] := by decide
    rw [e]
    exact ⟨(Pt.mayB_iff 2 [(0, 1, 1)]).1 (by decide), by decide⟩
  · intro j h _
    obtain rfl : j = 0 := by simp [sA] at h; omega
    show usedAt [(true, 9), (true, 5)] 0 = true ∧ usedAt [(true, 9), (true, 5)] 1 = true
    exact ⟨by decide, by decide⟩
theorem sA_wide : Wide sA := by
  refine ⟨fun h hh => ?_, fun x hx => ?_⟩
  · simp [sA] at hh; subst hh; exact ⟨by decide, by decide⟩
  · simp [sA] at hx
    rcases hx with rfl | rfl <;> exact ⟨by decide, by decide⟩
theorem not_st0 : ¬ SRS st0 := fun h => absurd h.1.1.1 (by decide)
theorem res_yes' {s : Sn.St} {l : Sn.By} {w : World} (hl : l.length ≤ 100000) (hs : SRS s) (hw : Wide s) (hn : s.es.length ≤ 100000) (he : l = Sn.save s) (N L R : Int) (h1 : s.N = N) (h2 : s.L = L) (h3 : s.R = R) :
    Calls Try.prog 20 #[.string (str l)] w (StP w s N L R (.int .i64 0)) := by
  subst h1 h2 h3 he
  have h := res_yes (w := w) hl (good_save hs hw hn)
  rw [Sn.told_save (ok_srs hs hw hn)] at h
  exact h.mono fun _ _ h => h.out
theorem res_no' {l : Sn.By} {w : World} (hl : l.length ≤ 100000) (hg : ¬ Good l) : Calls Try.prog 20 #[.string (str l)] w (StP w st0 0 0 0 (.int .i64 12)) :=
  (res_no hl hg).mono fun _ _ h => h.out
theorem sA_len : (Sn.save sA).length = 61 := by rw [Sn.save_len]; rfl
/-- What Ref answers, written out. -/
def RefP (w : World) (N L R : Int) (vh ve : Value) (ns : Nat) (ss : List (Bool × Int)) (e : Ending) (w' : World) : Prop := ∃ A c, e = .returned (.agg #[.int .i64 N, .int .i64 L, .int .i64 R, vh, ve, .slice A ns c]) ∧ Sl w' w'.heap.size 2 (.slice A ns c) ns (sls ss) ∧ Below w.heap.size w w'
theorem RefPost.out {w w' : World} {N L R : Int} {vh ve : Value} {ns : Nat} {ss : List (Bool × Int)} {e : Ending} (h : RefPost w N L R vh ve ns ss e w') : RefP w N L R vh ve ns ss e w' := by
  obtain ⟨v, rfl, h1, h2⟩ := h
  have h3 := h1
  obtain ⟨A, c, rfl, -⟩ := h1
  exact ⟨A, c, rfl, h3, h2⟩
def xB : ByteArray := { data := #[120] }
theorem lit_sl (w w' : World) (k sz : Nat) (e : TypeId) (cs : List Value) (n : Nat) (hb : Blk w k e cs) (hl : cs.length = n * sz) (hn : n ≤ 1000) : Sl w w.heap.size sz (.slice (some ⟨k, 0, none⟩) n n) n cs :=
  hb.sl hb.lt (Nat.le_refl _) (by unfold maxLen; omega) hl
set_option maxRecDepth 100000 in
set_option maxHeartbeats 16000000 in
theorem awake_any (w : World) : Calls Try.prog 12 #[] w (IsTrue w) := by
  obtain ⟨sv, hsv⟩ : ∃ sv, sv = str (Sn.save sA) := ⟨_, rfl⟩
  have hsz : sv.size = 61 := by rw [hsv, str_size, sA_len]
  have HL : Hid ((Sn.save sA).length = 61) := hid sA_len
  have RY : Hid (∀ w : World, Calls Try.prog 20 #[.string sv] w (StP w sA 2 1 1 (.int .i64 0))) := hid (fun w => by rw [hsv]; exact res_yes' (by rw [sA_len]; omega) sA_srs sA_wide (by decide) rfl 2 1 1 rfl rfl rfl)
  have RX : Hid (∀ w : World, Calls Try.prog 20 #[.string (sv ++ { data := #[120] })] w (StP w st0 0 0 0 (.int .i64 12))) := hid (fun w => by
    have e : sv ++ { data := #[120] } = str (Sn.save sA ++ [120]) := by rw [hsv, ← str_app]; rfl
    rw [e]
    exact res_no' (by rw [List.length_append, sA_len]; decide) (good_app (good_save sA_srs sA_wide (by decide)) (by decide)))
  have S1C : Hid (∀ w : World, Calls Try.prog 17 #[.string { data := #[] }] w fun e w' => e = .returned (.int .u64 1) ∧ Qt w w') := hid (fun w => bsum_any (l := []) (by decide))
  have S2C : Hid (∀ w : World, Calls Try.prog 17 #[.string { data := #[97] }] w fun e w' => e = .returned (.int .u64 355) ∧ Qt w w') := hid (fun w => bsum_any (l := [97]) (by decide))
  have HSV := hid hsv
  clear hsv
  have HB0 := hid (Below.refl w.heap.size w)
  go_enter Try.func12, Try.ntmps12
  go_wp2_with fail
  obtain ⟨wa, hwa⟩ : ∃ W, W = w.alloc (.cells #[.int .u64 3, .int .u64 4] 59) := ⟨_, rfl⟩
  obtain ⟨wb, hwb⟩ : ∃ W, W = wa.alloc (.cells #[.int .i64 0, .int .i64 1, .int .i64 1] 61) := ⟨_, rfl⟩
  obtain ⟨wc, hwc⟩ : ∃ W, W = wb.alloc (.cells #[.bool true, .int .u64 9, .bool true, .int .u64 5] 63) := ⟨_, rfl⟩
  have za : wa.heap.size = w.heap.size + 1 := by rw [hwa]; simp
  have zb : wb.heap.size = w.heap.size + 1 + 1 := by rw [hwb]; simp [za]
  have zc : wc.heap.size = w.heap.size + 1 + 1 + 1 := by rw [hwc]; simp [zb]
  have B1 : Blk wc w.heap.size 59 (hcz [(3, 4)]) := by rw [hwc, hwb, hwa]; exact ((Blk.new _ _ _).alloc _).alloc _
  have B2 : Blk wc (w.heap.size + 1) 61 (eds [(0, 1, 1)]) := by rw [hwc, hwb, ← za]; exact (Blk.new _ _ _).alloc _
  have B3 : Blk wc (w.heap.size + 1 + 1) 63 (sls [(true, 9), (true, 5)]) := by rw [hwc, ← zb]; exact Blk.new _ _ _
  have HBc : Hid (Below w.heap.size w wc) := hid (by rw [hwc, hwb, hwa]; exact Bl.new (Bl.new (bel_new _ _) _) _)
  have T1 := lit_sl wc wc (w.heap.size) 2 _ _ 1 B1 rfl (by decide)
  have T2 := lit_sl wc wc (w.heap.size + 1) 3 _ _ 1 B2 rfl (by decide)
  have T3 := lit_sl wc wc (w.heap.size + 1 + 1) 2 _ _ 2 B3 rfl (by decide)
  obtain ⟨A1, hA1⟩ : ∃ A : Option Addr, A = some ⟨w.heap.size, 0, none⟩ := ⟨_, rfl⟩
  obtain ⟨A2, hA2⟩ : ∃ A : Option Addr, A = some ⟨w.heap.size + 1, 0, none⟩ := ⟨_, rfl⟩
  obtain ⟨A3, hA3⟩ : ∃ A : Option Addr, A = some ⟨w.heap.size + 1 + 1, 0, none⟩ := ⟨_, rfl⟩
  rw [← hA1] at T1
  rw [← hA2] at T2
  rw [← hA3] at T3
  obtain ⟨wd, hwd⟩ : ∃ W, W = wc.alloc (.cells #[.int .i64 2, .int .i64 1, .int .i64 1, .slice A1 1 1, .slice A2 1 1, .slice A3 2 2] 30) := ⟨_, rfl⟩
  obtain ⟨KS, hKS⟩ : ∃ K, K = wc.heap.size := ⟨_, rfl⟩
  have DS : Hid (Blk wd KS 30 [.int .i64 2, .int .i64 1, .int .i64 1, .slice A1 1 1, .slice A2 1 1, .slice A3 2 2]) := hid (by rw [hwd, hKS]; exact Blk.new _ _ _)
  have bd : Below wc.heap.size wc wd := by rw [hwd]; exact bel_new _ _
  have HB := hid (Bl.call HBc.out bd)
  replace T1 := hid (T1.call bd)
  replace T2 := hid (T2.call bd)
  replace T3 := hid (T3.call bd)
  rw [← hwa, ← hwb, ← hwc, ← hA1, ← hA2, ← hA3, ← hwd, ← zc, ← hKS]
  refine (save_any (s := sA) T1 T2 T3 (by decide) sA_srs sA_wide).mono ?_; rintro e w1 ⟨rfl, b1⟩
  rw [← HSV.out]
  have hT1 := hid (T1.call b1)
  have hT2 := hid (T2.call b1)
  have hT3 := hid (T3.call b1)
  replace DS := hid (DS.out.below b1 DS.out.lt)
  replace HB := hid (Bl.call HB.out b1)
  clear b1 T1 T2 T3 B1 B2 B3 hwa hwb hwc hwd hKS hA1 hA2 hA3 za zb zc bd
  go_wp2_with fail
  refine (RY.out _).mono ?_; rintro e w2 ⟨A4, A5, A6, c4, c5, c6, n4, n5, n6, rfl, st_, b2⟩
  have U1 := hid st_.1
  have U2 := hid st_.2.1
  have U3 := hid st_.2.2
  replace hT1 := hid (hT1.out.call b2)
  replace hT2 := hid (hT2.out.call b2)
  replace hT3 := hid (hT3.out.call b2)
  replace DS := hid (DS.out.below b2 DS.out.lt)
  replace HB := hid (Bl.call HB.out b2)
  clear b2 st_
  go_wp2_with fail
  obtain ⟨w3, hw3⟩ : ∃ W, W = w2.alloc (.cells #[.int .i64 2, .int .i64 1, .int .i64 1, .slice A4 n4 c4, .slice A5 n5 c5, .slice A6 n6 c6] 30) := ⟨_, rfl⟩
  obtain ⟨KT, hKT⟩ : ∃ K, K = w2.heap.size := ⟨_, rfl⟩
  have DT : Hid (Blk w3 KT 30 [.int .i64 2, .int .i64 1, .int .i64 1, .slice A4 n4 c4, .slice A5 n5 c5, .slice A6 n6 c6]) := hid (by rw [hw3, hKT]; exact Blk.new _ _ _)
  have b3 : Below w2.heap.size w2 w3 := by rw [hw3]; exact bel_new _ _
  rw [← hw3, ← hKT]
  replace hT1 := hid (hT1.out.call b3)
  replace hT2 := hid (hT2.out.call b3)
  replace hT3 := hid (hT3.out.call b3)
  replace U1 := hid (U1.out.call b3)
  replace U2 := hid (U2.out.call b3)
  replace U3 := hid (U3.out.call b3)
  replace DS := hid (DS.out.below b3 DS.out.lt)
  replace HB := hid (Bl.call HB.out b3)
  clear b3 hw3 hKT
  refine (RX.out _).mono ?_; rintro e w4 ⟨A7, A8, A9, c7, c8, c9, n7, n8, n9, rfl, st_, b4⟩
  replace hT1 := hid (hT1.out.call b4)
  replace hT2 := hid (hT2.out.call b4)
  replace hT3 := hid (hT3.out.call b4)
  replace U1 := hid (U1.out.call b4)
  replace U2 := hid (U2.out.call b4)
  replace U3 := hid (U3.out.call b4)
  replace DS := hid (DS.out.below b4 DS.out.lt)
  replace DT := hid (DT.out.below b4 DT.out.lt)
  replace HB := hid (Bl.call HB.out b4)
  clear b4 st_
  go_wp2_with fail
  obtain ⟨w5, hw5⟩ : ∃ W, W = w4.alloc (.cells #[.int .i64 0, .int .i64 0, .int .i64 0, .slice A7 n7 c7, .slice A8 n8 c8, .slice A9 n9 c9] 30) := ⟨_, rfl⟩
  have b5 : Below w4.heap.size w4 w5 := by rw [hw5]; exact bel_new _ _
  rw [← hw5]
  replace hT1 := hid (hT1.out.call b5)
  replace hT2 := hid (hT2.out.call b5)
  replace hT3 := hid (hT3.out.call b5)
  replace U1 := hid (U1.out.call b5)
  replace U2 := hid (U2.out.call b5)
  replace U3 := hid (U3.out.call b5)
  replace DS := hid (DS.out.below b5 DS.out.lt)
  replace DT := hid (DT.out.below b5 DT.out.lt)
  replace HB := hid (Bl.call HB.out b5)
  clear b5 hw5
  refine (save_no (s := st0) (Sl.none_ _ _ _) (Sl.none_ _ _ _) (Sl.none_ _ _ _) (by decide) not_st0).mono ?_; rintro e w6 ⟨rfl, b6⟩
  replace hT1 := hid (hT1.out.call b6)
  replace hT2 := hid (hT2.out.call b6)
  replace hT3 := hid (hT3.out.call b6)
  replace U1 := hid (U1.out.call b6)
  replace U2 := hid (U2.out.call b6)
  replace U3 := hid (U3.out.call b6)
  replace DS := hid (DS.out.below b6 DS.out.lt)
  replace DT := hid (DT.out.below b6 DT.out.lt)
  replace HB := hid (Bl.call HB.out b6)
  clear b6
  generalize str [] = s0
  replace hT1 : Hid (Sl w6 w6.heap.size 2 (.slice A1 1 1) 1 (hcz sA.hs)) := hT1
  replace hT2 : Hid (Sl w6 w6.heap.size 3 (.slice A2 1 1) 1 (eds sA.es)) := hT2
  replace hT3 : Hid (Sl w6 w6.heap.size 2 (.slice A3 2 2) 2 (sls sA.ss)) := hT3
  have hn6 : n6 ≤ 100000 := by have h := U3.out.len; rw [len_sls] at h; have e : sA.ss.length = 2 := rfl; omega
  have hn5 : n5 ≤ 1000000 := by have h := U2.out.len; rw [len_eds] at h; have e : sA.es.length = 1 := rfl; omega
  have R1 : Hid (∀ w' : World, Sl w' w'.heap.size 2 (.slice A3 2 2) 2 (sls sA.ss) → Calls Try.prog 15 #[.agg #[.int .i64 2, .int .i64 1, .int .i64 1, .slice A1 1 1, .slice A2 1 1, .slice A3 2 2]] w' (RefP w' 2 1 1 (.slice A1 1 1) (.slice A2 1 1) 2 sA.ss)) := hid (fun w' h => (ref_any h (by decide)).mono fun _ _ h => h.out)
  have R2 : Hid (∀ w' : World, Sl w' w'.heap.size 2 (.slice A6 n6 c6) n6 (sls sA.ss) → Calls Try.prog 15 #[.agg #[.int .i64 2, .int .i64 1, .int .i64 1, .slice A4 n4 c4, .slice A5 n5 c5, .slice A6 n6 c6]] w' (RefP w' 2 1 1 (.slice A4 n4 c4) (.slice A5 n5 c5) n6 sA.ss)) := hid (fun w' h => (ref_any h hn6).mono fun _ _ h => h.out)
  have SM : Hid (∀ (w' : World) (A c A' c'), Sl w' w'.heap.size 2 (.slice A4 n4 c4) n4 (hcz sA.hs) → Sl w' w'.heap.size 3 (.slice A5 n5 c5) n5 (eds sA.es) → Sl w' w'.heap.size 2 (.slice A n6 c) n6 (sls sA.ss) → Sl w' w'.heap.size 2 (.slice A1 1 1) 1 (hcz sA.hs) → Sl w' w'.heap.size 3 (.slice A2 1 1) 1 (eds sA.es) → Sl w' w'.heap.size 2 (.slice A' 2 c') 2 (sls sA.ss) → Calls Try.prog 21 #[.agg #[.int .i64 2, .int .i64 1, .int .i64 1, .slice A4 n4 c4, .slice A5 n5 c5, .slice A n6 c], .agg #[.int .i64 2, .int .i64 1, .int .i64 1, .slice A1 1 1, .slice A2 1 1, .slice A' 2 c']] w' fun e w'' => e = .returned (.bool true) ∧ Below w'.heap.size w' w'') := hid (fun w' A c A' c' h1 h2 h3 h4 h5 h6 => ssame_is (s := sA) (s' := sA) h1 h2 h3 h4 h5 h6 true ⟨fun _ => rfl, fun _ => rfl⟩)
  have RT : Hid (∀ w' : World, Sl w' w'.heap.size 2 (.slice A1 1 1) 1 (hcz sA.hs) → Sl w' w'.heap.size 3 (.slice A2 1 1) 1 (eds sA.es) → Sl w' w'.heap.size 2 (.slice A3 2 2) 2 (sls sA.ss) → Calls Try.prog 16 #[.agg #[.int .i64 2, .int .i64 1, .int .i64 1, .slice A1 1 1, .slice A2 1 1, .slice A3 2 2]] w' fun e w'' => e = .returned (.bool true) ∧ Below w'.heap.size w' w'') := hid (fun w' h1 h2 h3 => sr_any h1 h2 h3 (by decide) true ⟨fun _ => rfl, fun _ => sA_srs⟩)
  have x0 := DS.out.cell 0
  have x1 := DS.out.cell 1
  have x2 := DS.out.cell 2
  have x3 := DS.out.cell 3
  have x4 := DS.out.cell 4
  have x5 := DS.out.cell 5
  have y0 := DT.out.cell 0
  have y1 := DT.out.cell 1
  have y2 := DT.out.cell 2
  have y3 := DT.out.cell 3
  have y4 := DT.out.cell 4
  have y5 := DT.out.cell 5
  clear hn6 hn5
  go_wp2_with fail
  go_region_held3 (fun w' => w'.cell? ⟨KS, 0, none⟩ = some (.int .i64 2) ∧ w'.cell? ⟨KS, 1, none⟩ = some (.int .i64 1) ∧ w'.cell? ⟨KS, 2, none⟩ = some (.int .i64 1) ∧ w'.cell? ⟨KS, 3, none⟩ = some (.slice A1 1 1) ∧ w'.cell? ⟨KS, 4, none⟩ = some (.slice A2 1 1) ∧ w'.cell? ⟨KS, 5, none⟩ = some (.slice A3 2 2) ∧ w'.cell? ⟨KT, 0, none⟩ = some (.int .i64 2) ∧ w'.cell? ⟨KT, 1, none⟩ = some (.int .i64 1) ∧ w'.cell? ⟨KT, 2, none⟩ = some (.int .i64 1) ∧ w'.cell? ⟨KT, 3, none⟩ = some (.slice A4 n4 c4) ∧ w'.cell? ⟨KT, 4, none⟩ = some (.slice A5 n5 c5) ∧ w'.cell? ⟨KT, 5, none⟩ = some (.slice A6 n6 c6))
    (first | (first | go_keep | (go_split_ands; and_intros <;> (first | (refine cell_later (by assumption) ?_; first | assumption | (rw [Qt.cell (qt_of _ _)]; assumption) | (rw [Qt.cell (qt_drew _)]; assumption)) | (refine cell_later (bel_new _ _) ?_; assumption) | (rw [Qt.cell (by assumption)]; first | assumption | (rw [Qt.cell (qt_of _ _)]; assumption) | (rw [Qt.cell (qt_drew _)]; assumption))))) | (go_split_ands; and_intros <;> (simp [*]; done)))
    (first | (go_at_call 15; (with_reducible refine (R2.out _ (by repeat (first | exact U3.out | refine Sl.new ?_ _ | refine Sl.cqt ?_ (qt_drew _) | refine Sl.cqt ?_ (qt_of _ _) | refine Sl.call ?_ (by assumption) | refine Sl.cqt ?_ (by assumption)))).mono ?_); rintro e w7 ⟨A10, c10, rfl, s7, b7⟩) | (go_at_call 15; (with_reducible refine (R1.out _ (by repeat (first | exact hT3.out | refine Sl.new ?_ _ | refine Sl.cqt ?_ (qt_drew _) | refine Sl.cqt ?_ (qt_of _ _) | refine Sl.call ?_ (by assumption) | refine Sl.cqt ?_ (by assumption)))).mono ?_); rintro e w8 ⟨A11, c11, rfl, s8, b8⟩) | (go_at_call 21; (with_reducible refine (SM.out _ _ _ _ _ (by repeat (first | exact U1.out | refine Sl.new ?_ _ | refine Sl.cqt ?_ (qt_drew _) | refine Sl.cqt ?_ (qt_of _ _) | refine Sl.call ?_ (by assumption) | refine Sl.cqt ?_ (by assumption))) (by repeat (first | exact U2.out | refine Sl.new ?_ _ | refine Sl.cqt ?_ (qt_drew _) | refine Sl.cqt ?_ (qt_of _ _) | refine Sl.call ?_ (by assumption) | refine Sl.cqt ?_ (by assumption))) (by repeat (first | exact s7 | refine Sl.new ?_ _ | refine Sl.cqt ?_ (qt_drew _) | refine Sl.cqt ?_ (qt_of _ _) | refine Sl.call ?_ (by assumption) | refine Sl.cqt ?_ (by assumption))) (by repeat (first | exact hT1.out | refine Sl.new ?_ _ | refine Sl.cqt ?_ (qt_drew _) | refine Sl.cqt ?_ (qt_of _ _) | refine Sl.call ?_ (by assumption) | refine Sl.cqt ?_ (by assumption))) (by repeat (first | exact hT2.out | refine Sl.new ?_ _ | refine Sl.cqt ?_ (qt_drew _) | refine Sl.cqt ?_ (qt_of _ _) | refine Sl.call ?_ (by assumption) | refine Sl.cqt ?_ (by assumption))) (by repeat (first | exact s8 | refine Sl.new ?_ _ | refine Sl.cqt ?_ (qt_drew _) | refine Sl.cqt ?_ (qt_of _ _) | refine Sl.call ?_ (by assumption) | refine Sl.cqt ?_ (by assumption)))).mono ?_); rintro e w9 ⟨rfl, b9⟩) | (go_at_call 17; (with_reducible refine (S1C.out _).mono ?_); rintro e w10 ⟨rfl, q10⟩) | (go_at_call 17; (with_reducible refine (S2C.out _).mono ?_); rintro e w11 ⟨rfl, q11⟩) | (go_at_call 16; (with_reducible refine (RT.out _ (by repeat (first | exact hT1.out | refine Sl.new ?_ _ | refine Sl.cqt ?_ (qt_drew _) | refine Sl.cqt ?_ (qt_of _ _) | refine Sl.call ?_ (by assumption) | refine Sl.cqt ?_ (by assumption))) (by repeat (first | exact hT2.out | refine Sl.new ?_ _ | refine Sl.cqt ?_ (qt_drew _) | refine Sl.cqt ?_ (qt_of _ _) | refine Sl.call ?_ (by assumption) | refine Sl.cqt ?_ (by assumption))) (by repeat (first | exact hT3.out | refine Sl.new ?_ _ | refine Sl.cqt ?_ (qt_drew _) | refine Sl.cqt ?_ (qt_of _ _) | refine Sl.call ?_ (by assumption) | refine Sl.cqt ?_ (by assumption)))).mono ?_); rintro e w12 ⟨rfl, b12⟩))
  all_goals
    go_wp2
    go_ret
    exact ⟨rfl, (by repeat (first | exact HB.out | refine Bl.new ?_ _ | refine Bl.call ?_ (by assumption) | refine Bl.qt ?_ (by assumption) | refine Bl.qt ?_ (qt_drew _) | refine Bl.qt ?_ (qt_of _ _)))⟩
end Go.Proofs.Ytbafbnkmmpaomaa
