/- Contract of raftsmanlaw05.awake: the fixed answer is true. -/
import Derived.Test.YtomgbhnalhddiaaSkE
namespace Go.Proofs.Ytomgbhnalhddiaa
open Go.RowKit
set_option linter.unusedVariables false
set_option linter.unusedSimpArgs false
attribute [local go_sem ↓] Go.wp_at_zero Go.wp_at_succ

abbrev awH : List (Nat × Nat) := [(0, 288230376151711744)]
theorem sok14 : SOk 1 4 4 := ⟨⟨by decide, by decide, by decide, by decide⟩, by decide⟩
theorem awTogV : Sk.tog awH 4 5 [0, 0, 0, 0] = [5, 5, 5, 0] := by decide +kernel
theorem aw_new (w : World) : Calls Try.prog 7 #[.int .i64 1, .int .i64 4] w (NwPost 1 4 4 w) := snew_ok sok14.1 (by decide) (by decide) w
theorem aw_tog {v1 v2 : Value} {w : World} (h1 : Sl w w.heap.size 1 v1 4 (us [0, 0, 0, 0])) (h2 : Sl w w.heap.size 2 v2 1 (hcs awH)) : Calls Try.prog 9 #[.agg #[.int .i64 1, .int .i64 4, v1], v2, .int .u64 5] w (SkPost 1 4 4 [5, 5, 5, 0] w) := by
  have h := toggle_ok (R := 1) (V := 4) (N := 4) (n := 5) (l := awH) (xs := [0, 0, 0, 0]) sok14 h1 h2 (by decide) (by intro x hx; simp at hx; omega) (by intro x hx; simp at hx; subst hx; constructor <;> decide)
  rw [awTogV] at h
  exact h
theorem aw_merge {v1 : Value} {w : World} (h1 : Sl w w.heap.size 1 v1 4 (us [5, 5, 5, 0])) : Calls Try.prog 10 #[.agg #[.int .i64 1, .int .i64 4, v1], .agg #[.int .i64 1, .int .i64 4, v1]] w (SkPost 1 4 4 [0, 0, 0, 0] w) :=
  merge_ok (r := 1) (v := 4) (n := 4) (xs := [5, 5, 5, 0]) (ys := [5, 5, 5, 0]) sok14 h1 h1 (by intro x hx; simp at hx; omega) (by intro x hx; simp at hx; omega)
theorem aw_names {v1 : Value} {w : World} (h1 : Sl w w.heap.size 1 v1 4 (us [5, 5, 5, 0])) : Calls Try.prog 15 #[.agg #[.int .i64 1, .int .i64 4, v1]] w (NmPost [5, 5, 5, 0] w) :=
  snames_ok (r := 1) (v := 4) (n := 4) (xs := [5, 5, 5, 0]) sok14 h1 (by intro x hx; simp at hx; omega)
theorem aw_same {v1 v2 : Value} {w : World} (h1 : Sl w w.heap.size 1 v1 4 (us [5, 5, 5, 0])) (h2 : Sl w w.heap.size 1 v2 4 (us [5, 5, 5, 0])) : Calls Try.prog 13 #[v1, v2] w fun e w' => e = .returned (.bool true) ∧ Qt w w' := usame_is true (by decide) h1 h2
theorem aw_same0 {v1 v2 : Value} {w : World} (h1 : Sl w w.heap.size 1 v1 4 (us [0, 0, 0, 0])) (h2 : Sl w w.heap.size 1 v2 4 (us [0, 0, 0, 0])) : Calls Try.prog 13 #[v1, v2] w fun e w' => e = .returned (.bool true) ∧ Qt w w' := usame_is true (by decide) h1 h2
theorem lit_us (w : World) (l : List Nat) (h : l.length ≤ 1000) : Sl (w.alloc (.cells (us l).toArray 31)) (w.alloc (.cells (us l).toArray 31)).heap.size 1 (.slice (some ⟨w.heap.size, 0, none⟩) l.length l.length) l.length (us l) :=
  (Blk.new w 31 (us l)).sl (by simp) (Nat.le_refl _) (by unfold maxLen; omega) (by rw [len_us]; omega)
theorem lit5 (w : World) : Sl (w.alloc (.cells #[.int .u64 5, .int .u64 5, .int .u64 5, .int .u64 0] 31)) (w.alloc (.cells #[.int .u64 5, .int .u64 5, .int .u64 5, .int .u64 0] 31)).heap.size 1 (.slice (some ⟨w.heap.size, 0, none⟩) 4 4) 4 (us [5, 5, 5, 0]) := lit_us w [5, 5, 5, 0] (by decide)
theorem lit0 (w : World) : Sl (w.alloc (.cells (us (List.replicate 4 0)).toArray 31)) (w.alloc (.cells (us (List.replicate 4 0)).toArray 31)).heap.size 1 (.slice (some ⟨w.heap.size, 0, none⟩) 4 4) 4 (us [0, 0, 0, 0]) := lit_us w [0, 0, 0, 0] (by decide)
theorem lit0b (w : World) : Sl (w.alloc (.cells (us [0, 0, 0, 0]).toArray 31)) (w.alloc (.cells (us [0, 0, 0, 0]).toArray 31)).heap.size 1 (.slice (some ⟨w.heap.size, 0, none⟩) 4 4) 4 (us [0, 0, 0, 0]) := lit_us w [0, 0, 0, 0] (by decide)
theorem lit0c (w : World) (o : Obj) (h : Obj.cells (us [0, 0, 0, 0]).toArray 31 = o) : Sl (w.alloc o) (w.alloc o).heap.size 1 (.slice (some ⟨w.heap.size, 0, none⟩) 4 4) 4 (us [0, 0, 0, 0]) := by subst h; exact lit0b w
theorem litH (w : World) : Sl (w.alloc (.cells #[.int .u64 0, .int .u64 288230376151711744] 46)) (w.alloc (.cells #[.int .u64 0, .int .u64 288230376151711744] 46)).heap.size 2 (.slice (some ⟨w.heap.size, 0, none⟩) 1 1) 1 (hcs awH) :=
  (Blk.new w 46 (hcs awH)).sl (by simp) (Nat.le_refl _) (by unfold maxLen; omega) (by rw [len_hcs]; rfl)

/-- A row of words lies in another block than a sketch. -/
theorem us_apart {w : World} {b o K m c : Nat} {T : TypeId} {r v x : Int} {A : Option Addr} (hc : w.cell? ⟨b, o, none⟩ = some (.int .u64 x)) (hb : Blk w K T [.int .i64 r, .int .i64 v, .slice A m c]) : b ≠ K := by
  rintro rfl
  rw [hb.cell] at hc
  match o, hc with
  | 0, hc => simp at hc
  | 1, hc => simp at hc
  | 2, hc => simp at hc
  | o + 3, hc => simp at hc
theorem Sl.skset {w : World} {n K m c : Nat} {T : TypeId} {r v' : Int} {A : Option Addr} {v : Value} {xs : List Nat} (h : Sl w w.heap.size 1 v n (us xs)) (hb : Blk w K T [.int .i64 r, .int .i64 v', .slice A m c]) (x y z : Value) :
    Sl (((w.setCell ⟨K, 0, none⟩ x).setCell ⟨K, 1, none⟩ y).setCell ⟨K, 2, none⟩ z) (((w.setCell ⟨K, 0, none⟩ x).setCell ⟨K, 1, none⟩ y).setCell ⟨K, 2, none⟩ z).heap.size 1 v n (us xs) := by
  have hl : xs.length = n := by have := h.len; rw [len_us] at this; omega
  obtain ⟨A, c, rfl, hnc, hcm, hll, hx⟩ := h
  refine ⟨A, c, rfl, hnc, hcm, hll, fun h0 => ?_⟩
  obtain ⟨b, o, rfl, hlt, hc⟩ := hx h0
  have h1 := us_cell hc (k := 0) (by omega)
  have hne := us_apart h1 hb
  refine ⟨b, o, rfl, by simpa [World.setCell] using hlt, fun j u hu => ?_⟩
  rw [World.cell?_of_block (Below.heap_setCell _ ⟨K, 2, none⟩ z b hne), World.cell?_of_block (Below.heap_setCell _ ⟨K, 1, none⟩ y b hne), World.cell?_of_block (Below.heap_setCell _ ⟨K, 0, none⟩ x b hne)]
  exact hc j u hu

set_option maxRecDepth 100000 in
set_option maxHeartbeats 8000000 in
theorem skAwake_any (w : World) : Calls Try.prog 8 #[] w (IsTrue w) := by
  go_enter Try.func8, Try.ntmps8
  go_wp2_with fail
  refine (aw_new _).mono ?_; rintro e w1 ⟨v1, rfl, s1, b1⟩
  have HB1 := hid b1
  have S1 : Hid (Sl w1 w1.heap.size 1 v1 4 (us [0, 0, 0, 0])) := hid s1
  clear s1 b1
  obtain ⟨A1, c1, rfl, _, _, _, _⟩ := S1.out
  obtain ⟨w2, hw2⟩ : ∃ z, z = w1.alloc (.cells #[.int .i64 1, .int .i64 4, .slice A1 4 c1] 26) := ⟨_, rfl⟩
  obtain ⟨w3, hw3⟩ : ∃ z, z = w2.alloc (.cells #[.int .u64 0, .int .u64 288230376151711744] 46) := ⟨_, rfl⟩
  obtain ⟨K1, hK1⟩ : ∃ z, z = w1.heap.size := ⟨_, rfl⟩
  have z2 : w2.heap.size = K1 + 1 := by rw [hw2, hK1]; simp
  have q2 : Below w1.heap.size w1 w2 := by rw [hw2]; exact bel_new _ _
  have q3 : Below w2.heap.size w2 w3 := by rw [hw3]; exact bel_new _ _
  have V1 : Hid (Blk w3 K1 26 [.int .i64 1, .int .i64 4, .slice A1 4 c1]) := hid ((show Blk w2 K1 26 [.int .i64 1, .int .i64 4, .slice A1 4 c1] by rw [hw2, hK1]; exact Blk.new _ _ _).on q3)
  have SH : Hid (Sl w3 w3.heap.size 2 (.slice (some ⟨K1 + 1, 0, none⟩) 1 1) 1 (hcs awH)) := hid (by rw [hw3, ← z2]; exact litH w2)
  have S3 := hid ((S1.out.call q2).call q3)
  have HB3 := hid (Bl.call (Bl.call HB1.out q2) q3)
  have hKw : w.heap.size ≤ K1 := by rw [hK1]; exact HB1.out.size
  have HW := hid (show w3 = (w1.alloc (.cells #[.int .i64 1, .int .i64 4, .slice A1 4 c1] 26)).alloc (.cells #[.int .u64 0, .int .u64 288230376151711744] 46) by rw [hw3, hw2])
  have HK := hid hK1
  clear hw2 hw3 hK1 z2 q2 q3
  go_wp2_with fail
  rw [← HW.out, ← HK.out]
  refine (aw_tog S3.out SH.out).mono ?_; rintro e w4 ⟨v4, rfl, s4, b4⟩
  have HB4 := hid (Bl.call HB3.out b4)
  have S4 := hid s4
  have V4 := hid (V1.out.on b4)
  clear s4 b4
  obtain ⟨A4, c4, rfl, _, _, _, hx4⟩ := S4.out
  obtain ⟨b4, o4, rfl, hb4, _⟩ := hx4 (by decide)
  clear hx4
  have k0 := V4.out.cell 0
  have k1 := V4.out.cell 1
  have k2 := V4.out.cell 2
  have f0 := V4.out.frozen 0
  have f1 := V4.out.frozen 1
  have f2 := V4.out.frozen 2
  obtain ⟨w5, hw5⟩ : ∃ z, z = ((w4.setCell ⟨K1, 0, none⟩ (.int .i64 1)).setCell ⟨K1, 1, none⟩ (.int .i64 4)).setCell ⟨K1, 2, none⟩ (.slice (some ⟨b4, o4, none⟩) 4 c4) := ⟨_, rfl⟩
  have V5 : Hid (Blk w5 K1 26 [.int .i64 1, .int .i64 4, .slice (some ⟨b4, o4, none⟩) 4 c4]) := hid (by rw [hw5]; exact ((V4.out.put 0 (.int .i64 1)).put 1 (.int .i64 4)).put 2 (.slice (some ⟨b4, o4, none⟩) 4 c4))
  have HB5 : Hid (Below w.heap.size w w5) := hid (by rw [hw5]; exact ((HB4.out.setCell (p := ⟨K1, 0, none⟩) hKw _).setCell (p := ⟨K1, 1, none⟩) hKw _).setCell (p := ⟨K1, 2, none⟩) hKw _)
  have S5 : Hid (Sl w5 w5.heap.size 1 (.slice (some ⟨b4, o4, none⟩) 4 c4) 4 (us [5, 5, 5, 0])) := hid (by rw [hw5]; exact S4.out.skset V4.out _ _ _)
  have HW5 := hid hw5
  clear hw5
  go_upto_region 3 with (fail)
  rw [← HW5.out]
  clear k0 k1 k2 f0 f1 f2
  have k0 := V5.out.cell 0
  have k1 := V5.out.cell 1
  have k2 := V5.out.cell 2
  go_wp2_with fail
  refine (aw_merge S5.out).mono ?_; rintro e w6 ⟨v6, rfl, s6, b6⟩
  have HB6 := hid (Bl.call HB5.out b6)
  have S6 := hid (S5.out.call b6)
  have T6 := hid s6
  have V6 := hid (V5.out.on b6)
  clear s6 b6 k0 k1 k2
  obtain ⟨A6, c6, rfl, _, _, _, _⟩ := T6.out
  obtain ⟨w7, hw7⟩ : ∃ z, z = w6.alloc (.cells #[.int .i64 1, .int .i64 4, .slice A6 4 c6] 26) := ⟨_, rfl⟩
  obtain ⟨K4, hK4⟩ : ∃ z, z = w6.heap.size := ⟨_, rfl⟩
  have q7 : Below w6.heap.size w6 w7 := by rw [hw7]; exact bel_new _ _
  have V7 := hid (V6.out.on q7)
  have U7 : Hid (Blk w7 K4 26 [.int .i64 1, .int .i64 4, .slice A6 4 c6]) := hid (by rw [hw7, hK4]; exact Blk.new _ _ _)
  have S7 := hid (S6.out.call q7)
  have T7 := hid (T6.out.call q7)
  have HB7 := hid (Bl.call HB6.out q7)
  have HW7 := hid hw7
  have HK4 := hid hK4
  clear hw7 hK4 q7
  go_upto_region 4 with (fail)
  rw [← HW7.out, ← HK4.out]
  have k0 := V7.out.cell 0
  have k1 := V7.out.cell 1
  have k2 := V7.out.cell 2
  go_wp2_with fail
  refine (toggle_no sok14 (m := 0) (by decide)).mono ?_; rintro e w8 ⟨rfl, b8⟩
  have HB8 := hid (Bl.call HB7.out b8)
  have V8 := hid (V7.out.on b8)
  have U8 := hid (U7.out.on b8)
  have S8 := hid (S7.out.call b8)
  have T8 := hid (T7.out.call b8)
  clear b8 k0 k1 k2
  obtain ⟨w9, hw9⟩ : ∃ z, z = w8.alloc (.cells #[.int .i64 1, .int .i64 4, .slice (some ⟨b4, o4, none⟩) 4 c4] 26) := ⟨_, rfl⟩
  have q9 : Below w8.heap.size w8 w9 := by rw [hw9]; exact bel_new _ _
  have HB9 := hid (Bl.call HB8.out q9)
  have V9 := hid (V8.out.on q9)
  have U9 := hid (U8.out.on q9)
  have S9 := hid (S8.out.call q9)
  have T9 := hid (T8.out.call q9)
  have HW9 := hid hw9
  clear q9 hw9
  go_upto_region 5 with (fail)
  rw [← HW9.out]
  have k0 := V9.out.cell 0
  have k1 := V9.out.cell 1
  have k2 := V9.out.cell 2
  go_wp2_with fail
  refine (aw_names S9.out).mono ?_; rintro e w10 ⟨v10, rfl, s10, b10⟩
  have HB10 := hid (Bl.call HB9.out b10)
  have V10 := hid (V9.out.on b10)
  have U10 := hid (U9.out.on b10)
  have S10 := hid (S9.out.call b10)
  have T10 := hid (T9.out.call b10)
  have N10 : Hid (Sl w10 w10.heap.size 1 v10 3 (us [5, 5, 5])) := hid s10
  clear s10 b10 k0 k1 k2
  obtain ⟨A10, c10, rfl, _, _, _, hx10⟩ := N10.out
  obtain ⟨bn, on, rfl, _, hcn⟩ := hx10 (by decide)
  have n0 : w10.cell? ⟨bn, on, none⟩ = some (.int .u64 5) := hcn 0 _ rfl
  have k0 := V10.out.cell 0
  have k1 := V10.out.cell 1
  have k2 := V10.out.cell 2
  have u2 := U10.out.cell 2
  have hmk := fun w => run_make_us 4 (by decide) w
  have hmk2 : ∀ (w : World), (Instr.makeSlice 23 (.int .i64 4) (.int .i64 4)).run Try.prog w = .ok (.slice (some ⟨w.heap.size, 0, none⟩) 4 4) (w.alloc (.cells (us (List.replicate 4 0)).toArray 31)) := hmk
  clear hx10 hcn hmk
  go_wp2_with fail
  go_region_held3 (fun w' => w'.cell? ⟨K1, 0, none⟩ = some (.int .i64 1) ∧ w'.cell? ⟨K1, 1, none⟩ = some (.int .i64 4) ∧ w'.cell? ⟨K1, 2, none⟩ = some (.slice (some ⟨b4, o4, none⟩) 4 c4) ∧ w'.cell? ⟨K4, 2, none⟩ = some (.slice A6 4 c6) ∧ w'.cell? ⟨bn, on, none⟩ = some (.int .u64 5)) (first | go_keep | (go_split_ands; and_intros <;> (first | (refine cell_later (by assumption) ?_; first | assumption | (rw [Qt.cell (qt_of _ _)]; assumption) | (rw [Qt.cell (qt_drew _)]; assumption)) | (refine cell_later (bel_new _ _) ?_; assumption) | (rw [Qt.cell (by assumption)]; first | assumption | (rw [Qt.cell (qt_of _ _)]; assumption) | (rw [Qt.cell (qt_drew _)]; assumption))))) (first | (go_at_call 13; (with_reducible refine (aw_same (v1 := .slice (some ⟨b4, o4, none⟩) 4 c4) (by repeat (first | exact S10.out | refine Sl.new ?_ _ | refine Sl.cqt ?_ (qt_drew _) | refine Sl.cqt ?_ (qt_of _ _) | refine Sl.call ?_ (by assumption) | refine Sl.cqt ?_ (by assumption))) (by repeat (first | exact lit5 _ | refine Sl.new ?_ _ | refine Sl.cqt ?_ (qt_drew _) | refine Sl.cqt ?_ (qt_of _ _) | refine Sl.cqt ?_ (by assumption)))).mono ?_); rintro e w11 ⟨rfl, q11⟩) | (go_at_call 13; (with_reducible refine (aw_same0 (v1 := .slice A6 4 c6) (by repeat (first | exact T10.out | refine Sl.new ?_ _ | refine Sl.cqt ?_ (qt_drew _) | refine Sl.cqt ?_ (qt_of _ _) | refine Sl.call ?_ (by assumption) | refine Sl.cqt ?_ (by assumption))) (by repeat (first | exact lit0 _ | exact lit0b _ | exact lit0c _ _ rfl | refine Sl.new ?_ _ | refine Sl.cqt ?_ (qt_drew _) | refine Sl.cqt ?_ (qt_of _ _) | refine Sl.cqt ?_ (by assumption)))).mono ?_); rintro e w12 ⟨rfl, q12⟩) | (go_at_call 18; (with_reducible refine (sright_yes sok14 _).mono ?_); rintro e w13 ⟨rfl, b13⟩))
  all_goals
    go_wp2
    go_ret
    exact ⟨rfl, (by repeat (first | exact HB10.out | refine Bl.new ?_ _ | refine Bl.call ?_ (by assumption) | refine Bl.qt ?_ (by assumption) | refine Bl.qt ?_ (qt_drew _) | refine Bl.qt ?_ (qt_of _ _)))⟩
end Go.Proofs.Ytomgbhnalhddiaa
