/- Contract of Ref. -/
import Derived.Test.YtbafbnkmmpaomaaSnL
namespace Go.Proofs.Ytbafbnkmmpaomaa
open Go.RowKit
set_option linter.unusedVariables false
set_option linter.unusedSimpArgs false
attribute [local go_sem ↓] Go.wp_at_zero Go.wp_at_succ
/-- Slots lie in another block than one that holds no bool. -/
theorem sls_far {w w' : World} {K n : Nat} {T : TypeId} {cs : List Value} {v : Value} {l : List (Bool × Int)} (h : Sl w w.heap.size 2 v n (sls l)) (hb : Blk w K T cs) (hnb : ∀ (i : Nat) (u : Bool), cs[i]? ≠ some (Value.bool u))
    (hw : ∀ k, k ≠ K → w'.heap[k]? = w.heap[k]?) (hs : w'.heap.size = w.heap.size) : Sl w' w'.heap.size 2 v n (sls l) := by
  have hl : l.length = n := by have := h.len; rw [len_sls] at this; omega
  obtain ⟨A, c, rfl, hnc, hcm, hll, hx⟩ := h
  refine ⟨A, c, rfl, hnc, hcm, hll, fun h0 => ?_⟩
  obtain ⟨b, o, rfl, hlt, hc⟩ := hx h0
  have h1 := (sls_cell hc (k := 0) (by omega)).1
  have hne : b ≠ K := by
    rintro rfl
    rw [hb.cell] at h1
    exact hnb _ _ h1
  exact ⟨b, o, rfl, by rw [hs]; exact hlt, fun j u hu => (World.cell?_of_block (a := ⟨b, o + j, none⟩) (hw b hne)).trans (hc j u hu)⟩
def RefPost (w : World) (N L R : Int) (vh ve : Value) (ns : Nat) (ss : List (Bool × Int)) (e : Ending) (w' : World) : Prop := ∃ v, e = .returned (stV N L R vh ve v) ∧ Sl w' w'.heap.size 2 v ns (sls ss) ∧ Below w.heap.size w w'
set_option maxRecDepth 100000 in
set_option maxHeartbeats 8000000 in
theorem ref_any {N L R : Int} {A1 A2 : Option Addr} {nh c1 ne c2 : Nat} {vs : Value} {ns : Nat} {ss : List (Bool × Int)} {w : World} (h3 : Sl w w.heap.size 2 vs ns (sls ss)) (hn : ns ≤ 100000) :
    Calls Try.prog 15 #[stV N L R (.slice A1 nh c1) (.slice A2 ne c2) vs] w (RefPost w N L R (.slice A1 nh c1) (.slice A2 ne c2) ns ss) := by
  unfold stV
  have S3 := hid h3
  obtain ⟨A3, c3, rfl, -⟩ := h3
  obtain ⟨KS, hKS⟩ : ∃ K, K = w.heap.size := ⟨_, rfl⟩
  obtain ⟨KR, hKR⟩ : ∃ K, K = w.heap.size + 1 := ⟨_, rfl⟩
  obtain ⟨w2, hw2⟩ : ∃ W, W = (w.alloc (.cells #[.int .i64 N, .int .i64 L, .int .i64 R, .slice A1 nh c1, .slice A2 ne c2, .slice A3 ns c3] 30)).alloc (.cells #[.int .i64 0, .int .i64 0, .int .i64 0, .slice none 0 0, .slice none 0 0, .slice none 0 0] 39) := ⟨_, rfl⟩
  have b2 : Below w.heap.size w w2 := by rw [hw2]; exact Bl.new (bel_new _ _) _
  have HB2 := hid b2
  have T3 := hid (S3.out.call b2)
  have DS : Hid (Blk w2 KS 30 [.int .i64 N, .int .i64 L, .int .i64 R, .slice A1 nh c1, .slice A2 ne c2, .slice A3 ns c3]) := hid (by rw [hw2, hKS]; exact (Blk.new _ _ _).alloc _)
  have DR : Hid (Blk w2 KR 39 [.int .i64 0, .int .i64 0, .int .i64 0, .slice none 0 0, .slice none 0 0, .slice none 0 0]) := hid (by rw [hw2, hKR]; have := Blk.new (w.alloc (.cells #[.int .i64 N, .int .i64 L, .int .i64 R, .slice A1 nh c1, .slice A2 ne c2, .slice A3 ns c3] 30)) 39 [.int .i64 0, .int .i64 0, .int .i64 0, .slice none 0 0, .slice none 0 0, .slice none 0 0]; simpa using this)
  have HW := hid hw2
  have HK1 := hid hKS
  have HK2 := hid hKR
  have NE : Hid (KS ≠ KR) := hid (by omega)
  have LO : Hid (w.heap.size ≤ KR) := hid (by omega)
  clear hw2 hKS hKR b2
  go_enter Try.func15, Try.ntmps15
  go_wp2_with fail
  rw [← HK2.out, ← HK1.out, ← HW.out]
  have x0 := DS.out.cell 0
  have x1 := DS.out.cell 1
  have x2 := DS.out.cell 2
  have x3 := DS.out.cell 3
  have x4 := DS.out.cell 4
  have x5 := DS.out.cell 5
  have ne1 := NE.out
  have ne2 := NE.out.symm
  go_region_held3 (fun w' => w'.cell? ⟨KS, 0, none⟩ = some (.int .i64 N) ∧ w'.cell? ⟨KS, 1, none⟩ = some (.int .i64 L) ∧ w'.cell? ⟨KS, 2, none⟩ = some (.int .i64 R) ∧ w'.cell? ⟨KS, 3, none⟩ = some (.slice A1 nh c1) ∧ w'.cell? ⟨KS, 4, none⟩ = some (.slice A2 ne c2) ∧ w'.cell? ⟨KS, 5, none⟩ = some (.slice A3 ns c3))
    (first | (first | go_keep | (go_split_ands; and_intros <;> (first | (refine cell_later (by assumption) ?_; first | assumption | (rw [Qt.cell (qt_of _ _)]; assumption) | (rw [Qt.cell (qt_drew _)]; assumption)) | (refine cell_later (bel_new _ _) ?_; assumption))) | (refine cell_later (by assumption) ?_; first | assumption | (rw [Qt.cell (qt_of _ _)]; assumption) | (rw [Qt.cell (qt_drew _)]; assumption)) | (refine cell_later (bel_new _ _) ?_; assumption)) | (go_split_ands; and_intros <;> (simp [*]; done)))
    ((go_at_call 30; (with_reducible refine (refs_any (by repeat (first | exact T3.out | refine Sl.new ?_ _ | refine Sl.cqt ?_ (qt_drew _) | refine Sl.cqt ?_ (qt_of _ _) | refine Sl.call ?_ (by assumption) | refine Sl.cqt ?_ (by assumption))) hn).mono ?_); rintro e w5 ⟨v5, rfl, s5, b5⟩; have s6 := hid s5; obtain ⟨A5, c5, rfl, -⟩ := s5; have R5 : Blk w5 KR 39 [.int .i64 0, .int .i64 0, .int .i64 0, .slice none 0 0, .slice none 0 0, .slice none 0 0] := Blk.below (Blk.below DR.out (by first | exact (qt_drew _).bel | exact (qt_of _ _).bel) DR.out.lt) b5 DR.out.lt; have z0 := R5.cell 0; have f0 := R5.frozen 0; have z1 := R5.cell 1; have f1 := R5.frozen 1; have z2 := R5.cell 2; have f2 := R5.frozen 2; have z3 := R5.cell 3; have f3 := R5.frozen 3; have z4 := R5.cell 4; have f4 := R5.frozen 4; have z5 := R5.cell 5; have f5 := R5.frozen 5))
  all_goals
    have R6 := (((((R5.put 0 (.int .i64 N)).put 1 (.int .i64 L)).put 2 (.int .i64 R)).put 3 (.slice A1 nh c1)).put 4 (.slice A2 ne c2)).put 5 (.slice A5 ns c5)
    have H6 := hid R6
    have HB5 : Hid (Below w.heap.size w w5) := hid (by repeat (first | exact HB2.out | refine Bl.new ?_ _ | refine Bl.call ?_ (by assumption) | refine Bl.qt ?_ (by assumption) | refine Bl.qt ?_ (qt_drew _) | refine Bl.qt ?_ (qt_of _ _)))
    have HB6 := hid ((((((HB5.out.setCell (p := ⟨KR, 0, none⟩) LO.out (.int .i64 N)).setCell (p := ⟨KR, 1, none⟩) LO.out (.int .i64 L)).setCell (p := ⟨KR, 2, none⟩) LO.out (.int .i64 R)).setCell (p := ⟨KR, 3, none⟩) LO.out (.slice A1 nh c1)).setCell (p := ⟨KR, 4, none⟩) LO.out (.slice A2 ne c2)).setCell (p := ⟨KR, 5, none⟩) LO.out (.slice A5 ns c5))
    have S9 := hid (sls_far (w' := (((((w5.setCell ⟨KR, 0, none⟩ (.int .i64 N)).setCell ⟨KR, 1, none⟩ (.int .i64 L)).setCell ⟨KR, 2, none⟩ (.int .i64 R)).setCell ⟨KR, 3, none⟩ (.slice A1 nh c1)).setCell ⟨KR, 4, none⟩ (.slice A2 ne c2)).setCell ⟨KR, 5, none⟩ (.slice A5 ns c5)) s6.out R5 (fun i u => by rcases i with _ | _ | _ | _ | _ | _ | i <;> simp) (fun k hk => by rw [Below.heap_setCell _ ⟨KR, 5, none⟩ _ k hk, Below.heap_setCell _ ⟨KR, 4, none⟩ _ k hk, Below.heap_setCell _ ⟨KR, 3, none⟩ _ k hk, Below.heap_setCell _ ⟨KR, 2, none⟩ _ k hk, Below.heap_setCell _ ⟨KR, 1, none⟩ _ k hk, Below.heap_setCell _ ⟨KR, 0, none⟩ _ k hk]) (by simp))
    generalize (((((w5.setCell ⟨KR, 0, none⟩ (.int .i64 N)).setCell ⟨KR, 1, none⟩ (.int .i64 L)).setCell ⟨KR, 2, none⟩ (.int .i64 R)).setCell ⟨KR, 3, none⟩ (.slice A1 nh c1)).setCell ⟨KR, 4, none⟩ (.slice A2 ne c2)).setCell ⟨KR, 5, none⟩ (.slice A5 ns c5) = w9 at *
    have t0 := H6.out.cell 0
    have t1 := H6.out.cell 1
    have t2 := H6.out.cell 2
    have t3 := H6.out.cell 3
    have t4 := H6.out.cell 4
    have t5 := H6.out.cell 5
    clear z0 z1 z2 z3 z4 z5 f0 f1 f2 f3 f4 f5 R5 R6
    go_wp2
    exact bodyPost_ret (v := .agg #[.int .i64 N, .int .i64 L, .int .i64 R, .slice A1 nh c1, .slice A2 ne c2, .slice A5 ns c5]) (by simp [results, Try.results15, go_sem, t0, t1, t2, t3, t4, t5]) rfl ⟨_, rfl, S9.out, HB6.out⟩
end Go.Proofs.Ytbafbnkmmpaomaa
