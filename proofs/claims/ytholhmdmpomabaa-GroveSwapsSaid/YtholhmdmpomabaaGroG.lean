/- Contract of raftsmanlaw10.awake: the fixed answer is true. -/
import Derived.Test.YtholhmdmpomabaaGroF
import Derived.Deep.RegionHeld3
import Derived.Deep.DrawnRows
namespace Go.Proofs.Ytholhmdmpomabaa
open Go.RowKit Pt
set_option linter.unusedVariables false
set_option linter.unusedSimpArgs false
attribute [local go_sem ↓] Go.wp_at_zero Go.wp_at_succ

abbrev awL : List Ed := [(0, 1, 2), (1, 2, 1), (3, 4, 0)]
theorem aw_fst : Fst 5 (uv awL) := ⟨(mayB_iff 5 awL).1 (by decide), by decide⟩
theorem aw_cn : Cn 5 (uv awL) 2 0 := by unfold Cn; decide
theorem aw_not : ¬ Cn 5 (uv awL) 2 3 := by unfold Cn; decide
theorem aw_no : ¬ Fst 3 (uv awL) := fun h => absurd (fst_may h) (by decide)
theorem aw_sm : Sm (uv awL) 2 [1, 0] 0 := ⟨⟨(1, 2), rfl, .inr rfl, ⟨(0, 1), rfl, .inr rfl, rfl⟩⟩, by decide⟩
theorem cell_later {a b : World} {bk o : Nat} {u : Value} (hb : Below a.heap.size a b) (h : a.cell? ⟨bk, o, none⟩ = some u) : b.cell? ⟨bk, o, none⟩ = some u :=
  (hb.cell (p := ⟨bk, o, none⟩) (World.block_lt_of_cell? _ ⟨bk, o, none⟩ h)).trans h

section
variable {ops : Array Oper} {rest : List Oper} {o : Oper} {a : Act} {Q : Exit → Act → World → Prop} {w : World}
/-- append onto a slice that has no room: a new row. -/
theorem wl_appF (hw : Region.wanted o (yielded ops a.tmps) = true) (s x : Operand) {t e : TypeId} {z : Value} {sz by_ : Nat} (hT : SlT t e z sz by_) (hop : o.op = .call { callee := .builtin .append, args := #[s, x], argTypes := #[t, t] })
    {b of n : Nat} {xs : List Value} (hs : a.eval s = .slice (some ⟨b, of, none⟩) n n) (hl0 : xs.length = n * sz) (hc : ∀ j u, xs[j]? = some u → w.cell? ⟨b, of + j, none⟩ = some u) {H : Nat} {e' : TypeId} {news : List Value} (hx : a.eval x = .slice (some ⟨H, 0, none⟩) 1 1) (hblk : Blk w H e' news)
    (hl : news.length = sz) (h1 : ∀ u ∈ news, u.oneCell' = true) (hb : (n + 1) * by_ ≤ 140737488355328)
    (h : ∀ v' w', w'.ownsRow w.heap.size e sz v' (n + 1) (xs ++ news) → Below w.heap.size w w' → wpList Try.prog ops Q rest (a.put o.dst v') w') : wpList Try.prog ops Q (o :: rest) a w := by
  refine BigFrame.wpList_want hw fun K hK => ?_
  obtain ⟨hu, ⟨i, hi, hz, hsz, hby⟩, hzs, h0, h0b⟩ := hT
  have h63 : n + 1 ≤ maxLen := by
    have : n + 1 ≤ (n + 1) * by_ := Nat.le_mul_of_pos_right _ h0b
    unfold maxLen; omega
  obtain ⟨v', w', hrun, hown, hg⟩ := run_append_arg_grows (P := Try.prog) w t o.type e i z sz by_ hu hi hz hsz hby hzs h0 ⟨b, of, none⟩ n n xs hl0 (fun j u hu => by rw [Addr.add_lit]; exact hc j u hu) ⟨H, 0, none⟩ 1 1 news (by omega) (fun j u hu => by rw [Addr.add_lit, Nat.zero_add, hblk.cell]; exact hu) (by omega) h63 hb
  unfold Oper.wp execOp
  simp only [hop, resolve, invoke, builtin, Sem.run_bind, Sem.run_pure, Result.andThen_ok, List.map_toArray, List.map_cons, List.map_nil, hs, hx, hrun]
  exact hK _ _ (h v' w' hown ⟨hg.os, hg.tape, hg.output, hg.size, fun k hk => hg.block k hk (by simp)⟩)
end
theorem gright5 {v : Value} {w : World} (hs : Sl w w.heap.size 3 v 3 (eds awL)) : Calls Try.prog 7 #[.int .i64 5, v] w fun e w' => e = .returned (.bool true) ∧ Below w.heap.size w w' := gright_yes (n := 5) (by decide) hs aw_fst
theorem gright3 {v : Value} {w : World} (hs : Sl w w.heap.size 3 v 3 (eds awL)) : Calls Try.prog 7 #[.int .i64 3, v] w fun e w' => e = .returned (.bool false) ∧ Below w.heap.size w w' := gright_no (n := 3) (by decide) hs aw_no
theorem gtree5 {v : Value} {w : World} (hs : Sl w w.heap.size 3 v 3 (eds awL)) : Calls Try.prog 12 #[.int .i64 5, v, .int .i64 4] w fun e w' => ∃ v', e = .returned v' ∧ Sl w' w'.heap.size 1 v' 2 (ints [3, 4]) ∧ Below w.heap.size w w' :=
  (tree_any (n := 5) (by decide) hs aw_fst 4).mono fun e w' ⟨v', h1, h2, h3⟩ => ⟨v', h1, by rw [show classL (partOf 5 (uv awL)) 4 = [3, 4] by decide] at h2; exact h2, h3⟩
theorem same34 {v v' : Value} {w : World} (hs : Sl w w.heap.size 1 v 2 (ints [3, 4])) (hs' : Sl w w.heap.size 1 v' 2 (ints [3, 4])) : Calls Try.prog 11 #[v, v'] w fun e w' => e = .returned (.bool true) ∧ Qt w w' := same_is true (by decide) hs hs'
theorem lit34 (w : World) : Sl (w.alloc (.cells #[.int .i64 3, .int .i64 4] 3)) (w.alloc (.cells #[.int .i64 3, .int .i64 4] 3)).heap.size 1 (.slice (some ⟨w.heap.size, 0, none⟩) 2 2) 2 (ints [3, 4]) := lit_ints w _ [3, 4] (by decide)
abbrev awM : List Ed := [(0, 1, 2), (1, 2, 1), (3, 4, 0), (0, 2, 0)]

set_option maxRecDepth 100000 in
set_option maxHeartbeats 8000000 in
theorem gAwake_any (w : World) : Calls Try.prog 8 #[] w (IsTrue w) := by
  obtain ⟨w1, hw1⟩ : ∃ w1, w1 = w.alloc (.cells (eds awL).toArray 29) := ⟨_, rfl⟩
  obtain ⟨KL, hKL⟩ : ∃ KL, KL = w.heap.size := ⟨_, rfl⟩
  have HW1 := hid hw1
  have HKL := hid hKL
  have S_l : Hid (Sl w1 w1.heap.size 3 (.slice (some ⟨KL, 0, none⟩) 3 3) 3 (eds awL)) := hid (by rw [hw1, hKL]; exact lit_eds w _ awL (by decide))
  have B_l : Hid (Blk w1 KL 29 (eds awL)) := hid (by rw [hw1, hKL]; exact Blk.new _ _ _)
  have HB1 : Hid (Below w.heap.size w w1) := hid (by rw [hw1]; exact bel_new _ _)
  have hLB : w.heap.size ≤ KL := by omega
  clear hw1 hKL
  go_enter Try.func8, Try.ntmps8
  go_wp2_with fail
  rw [← HKL.out, show w.alloc (.cells #[.int .i64 0, .int .i64 1, .int .i64 2, .int .i64 1, .int .i64 2, .int .i64 1, .int .i64 3, .int .i64 4, .int .i64 0] 29) = w1 from HW1.out.symm]
  refine (path_ok (n := 5) (by decide) S_l.out aw_fst (u := 2) (v := 0) (by decide) (by decide) aw_cn).mono ?_; rintro e w2 ⟨v2, p, rfl, hp, hsp, b2⟩
  have hp2 := aw_fst.unique hp aw_sm
  subst hp2
  have S_p : Hid (Sl w2 w2.heap.size 3 v2 2 (eds [(1, 2, 1), (0, 1, 2)])) := hid hsp
  have HB2 := hid (Bl.call HB1.out b2)
  have S_l2 := hid (S_l.out.call b2)
  have B_l2 := hid (B_l.out.below b2 B_l.out.lt)
  clear hp hsp b2
  go_wp2_with fail
  refine (path_none (n := 5) (by decide) S_l2.out aw_fst (u := 2) (v := 3) (by decide) (by decide) aw_not).mono ?_; rintro e w3 ⟨rfl, b3⟩
  have HB3 := hid (Bl.call HB2.out b3)
  have S_p3 := hid (S_p.out.call b3)
  have S_l3 := hid (S_l2.out.call b3)
  have B_l3 := hid (B_l2.out.below b3 B_l2.out.lt)
  clear b3
  go_wp2_with fail
  refine (greatest_two S_p3.out (by decide)).mono ?_; rintro e w4 ⟨rfl, b4⟩
  have HB4 := hid (Bl.call HB3.out b4)
  have S_p4 := hid (S_p3.out.call b4)
  have S_l4 := hid (S_l3.out.call b4)
  have B_l4 := hid (B_l3.out.below b4 B_l3.out.lt)
  clear b4
  obtain ⟨w5, hw5⟩ : ∃ w5, w5 = w4.alloc (.cells #[.int .i64 0, .int .i64 1, .int .i64 2] 29) := ⟨_, rfl⟩
  obtain ⟨KG, hKG⟩ : ∃ KG, KG = w4.heap.size := ⟨_, rfl⟩
  have b5 : Below w4.heap.size w4 w5 := by rw [hw5]; exact bel_new _ _
  have B_g : Hid (Blk w5 KG 29 [.int .i64 0, .int .i64 1, .int .i64 2]) := hid (by rw [hw5, hKG]; exact Blk.new _ _ _)
  have HB5 := hid (Bl.call HB4.out b5)
  have S_p5 := hid (S_p4.out.call b5)
  have S_l5 := hid (S_l4.out.call b5)
  have B_l5 := hid (B_l4.out.below b5 B_l4.out.lt)
  have hl5 : Hid (∀ j u, (eds awL)[j]? = some u → (w5.alloc (.cells #[.int .i64 0, .int .i64 2, .int .i64 0] 29)).cell? ⟨KL, 0 + j, none⟩ = some u) := hid (fun j u hu => by rw [Nat.zero_add, (B_l5.out.alloc _).cell]; exact hu)
  have hk5 : Hid (Blk (w5.alloc (.cells #[.int .i64 0, .int .i64 2, .int .i64 0] 29)) (w4.heap.size + 1) 29 [.int .i64 0, .int .i64 2, .int .i64 0]) := hid (by have h := Blk.new w5 29 [.int .i64 0, .int .i64 2, .int .i64 0]; rwa [show w5.heap.size = w4.heap.size + 1 by rw [hw5]; simp] at h)
  have HW5 := hid hw5
  have HKG := hid hKG
  clear hw5 hKG b5
  go_wp2_with (at_builtin; rw [← HW5.out]; go_loud (refine wl_appF rfl _ _ Teds rfl (n := 3) (xs := eds awL) rfl rfl hl5.out rfl hk5.out rfl (eds_one [(0, 2, 0)]) (by decide) ?_))
  intro v6 w6 hO6 hB6
  have S_m : Hid (Sl w6 w6.heap.size 3 v6 4 (eds awM)) := hid (Sl.of_own hO6)
  have hb6 : Below w5.heap.size w5 w6 := (bel_new w5 _).trans (hB6.mono (Nat.le_succ _))
  have HB6 := hid (Bl.call HB5.out hb6)
  have S_p6 := hid (S_p5.out.call hb6)
  have S_l6 := hid (S_l5.out.call hb6)
  have B_l6 := hid (B_l5.out.below hb6 B_l5.out.lt)
  have B_g6 := hid (B_g.out.below hb6 B_g.out.lt)
  clear hO6 hB6 hb6
  go_wp2_with fail
  refine (spanning_any (n := 5) (by decide) S_m.out (by decide) (by decide)).mono ?_; rintro e w7 ⟨v7, rfl, hs7, b7⟩
  have S_s : Hid (Sl w7 w7.heap.size 3 v7 3 (eds (spK 5 awM 4).1)) := hid hs7
  have HB7 := hid (Bl.call HB6.out b7)
  have S_p7 := hid (S_p6.out.call b7)
  have S_l7 := hid (S_l6.out.call b7)
  have B_l7 := hid (B_l6.out.below b7 B_l6.out.lt)
  have B_g7 := hid (B_g6.out.below b7 B_g6.out.lt)
  clear hs7 b7
  obtain ⟨A7, c7, hv7, hnc7, hcm7, hll7, hx7⟩ := S_s.out
  subst hv7
  obtain ⟨Ap, cp, hvp, hncp, hcmp, hllp, hxp⟩ := S_p7.out
  subst hvp
  obtain ⟨bp, op, rfl, hltp, hcp⟩ := hxp (by decide)
  have p0 : w7.cell? ⟨bp, op, none⟩ = some (.int .i64 1) := hcp 0 _ rfl
  have p1 : w7.cell? ⟨bp, op + 1, none⟩ = some (.int .i64 2) := hcp 1 _ rfl
  have p2 : w7.cell? ⟨bp, op + 2, none⟩ = some (.int .i64 1) := hcp 2 _ rfl
  have l0 : w7.cell? ⟨KL, 0, none⟩ = some (.int .i64 0) := B_l7.out.cell 0
  have l1 : w7.cell? ⟨KL, 1, none⟩ = some (.int .i64 1) := B_l7.out.cell 1
  have l2 : w7.cell? ⟨KL, 2, none⟩ = some (.int .i64 2) := B_l7.out.cell 2
  have l3 : w7.cell? ⟨KL, 3, none⟩ = some (.int .i64 1) := B_l7.out.cell 3
  have l4 : w7.cell? ⟨KL, 4, none⟩ = some (.int .i64 2) := B_l7.out.cell 4
  have l5 : w7.cell? ⟨KL, 5, none⟩ = some (.int .i64 1) := B_l7.out.cell 5
  have g0 : w7.cell? ⟨KG, 0, none⟩ = some (.int .i64 0) := B_g7.out.cell 0
  have g1 : w7.cell? ⟨KG, 1, none⟩ = some (.int .i64 1) := B_g7.out.cell 1
  have g2 : w7.cell? ⟨KG, 2, none⟩ = some (.int .i64 2) := B_g7.out.cell 2
  have hcpI : (2 : Int) ≤ (cp : Int) := by omega
  clear hx7 hll7 hxp hllp hcp hcm7 hcmp
  rw [← HKG.out]
  go_wp2_with fail
  go_region_held3 (fun w' => w'.cell? ⟨bp, op, none⟩ = some (.int .i64 1) ∧ w'.cell? ⟨bp, op + 1, none⟩ = some (.int .i64 2) ∧ w'.cell? ⟨bp, op + 2, none⟩ = some (.int .i64 1) ∧ w'.cell? ⟨KL, 0, none⟩ = some (.int .i64 0) ∧ w'.cell? ⟨KL, 1, none⟩ = some (.int .i64 1) ∧ w'.cell? ⟨KL, 2, none⟩ = some (.int .i64 2) ∧ w'.cell? ⟨KL, 3, none⟩ = some (.int .i64 1) ∧ w'.cell? ⟨KL, 4, none⟩ = some (.int .i64 2) ∧ w'.cell? ⟨KL, 5, none⟩ = some (.int .i64 1) ∧ w'.cell? ⟨KG, 0, none⟩ = some (.int .i64 0) ∧ w'.cell? ⟨KG, 1, none⟩ = some (.int .i64 1) ∧ w'.cell? ⟨KG, 2, none⟩ = some (.int .i64 2)) (first | go_keep | (go_split_ands; and_intros <;> (first | (refine cell_later (by assumption) ?_; first | assumption | (rw [Qt.cell (qt_of _ _)]; assumption) | (rw [Qt.cell (qt_drew _)]; assumption)) | (refine cell_later (bel_new _ _) ?_; assumption) | (rw [Qt.cell (by assumption)]; first | assumption | (rw [Qt.cell (qt_of _ _)]; assumption) | (rw [Qt.cell (qt_drew _)]; assumption))))) (first | (go_at_call 7; (with_reducible refine (gright5 (by repeat (first | exact S_l7.out | refine Sl.new ?_ _ | refine Sl.cqt ?_ (qt_drew _) | refine Sl.cqt ?_ (qt_of _ _) | refine Sl.call ?_ (by assumption) | refine Sl.cqt ?_ (by assumption)))).mono ?_); rintro e w8 ⟨rfl, b8⟩) | (go_at_call 7; (with_reducible refine (gright3 (by repeat (first | exact S_l7.out | refine Sl.new ?_ _ | refine Sl.cqt ?_ (qt_drew _) | refine Sl.cqt ?_ (qt_of _ _) | refine Sl.call ?_ (by assumption) | refine Sl.cqt ?_ (by assumption)))).mono ?_); rintro e w9 ⟨rfl, b9⟩) | (go_at_call 12; (with_reducible refine (gtree5 (by repeat (first | exact S_l7.out | refine Sl.new ?_ _ | refine Sl.cqt ?_ (qt_drew _) | refine Sl.cqt ?_ (qt_of _ _) | refine Sl.call ?_ (by assumption) | refine Sl.cqt ?_ (by assumption)))).mono ?_); rintro e w10 ⟨v10, rfl, S_t, b10⟩) | (go_at_call 11; (with_reducible refine (same34 (by repeat (first | exact S_t | refine Sl.new ?_ _ | refine Sl.cqt ?_ (qt_drew _) | refine Sl.cqt ?_ (qt_of _ _) | refine Sl.call ?_ (by assumption) | refine Sl.cqt ?_ (by assumption))) (by repeat (first | exact lit34 _ | refine Sl.new ?_ _ | refine Sl.cqt ?_ (qt_drew _) | refine Sl.cqt ?_ (qt_of _ _) | refine Sl.call ?_ (by assumption) | refine Sl.cqt ?_ (by assumption)))).mono ?_); rintro e w11 ⟨rfl, q11⟩))
  all_goals
    go_wp2
    go_ret
    exact ⟨rfl, (by repeat (first | exact HB7.out | refine Bl.new ?_ _ | refine Bl.call ?_ (by assumption) | refine Bl.qt ?_ (by assumption) | refine Bl.qt ?_ (qt_drew _) | refine Bl.qt ?_ (qt_of _ _)))⟩
end Go.Proofs.Ytholhmdmpomabaa
