/- Contract of snap.Restore. -/
import Derived.Test.YtbafbnkmmpaomaaSnQ
namespace Go.Proofs.Ytbafbnkmmpaomaa
open Go.RowKit
set_option linter.unusedVariables false
set_option linter.unusedSimpArgs false
attribute [local go_sem ↓] Go.wp_at_zero Go.wp_at_succ
/-- The bytes of a state. -/
def Good (l : Sn.By) : Prop := Sn.Fits l ∧ SRS (Sn.told l) ∧ Sn.save (Sn.told l) = l
def ResPost (w : World) (s : Sn.St) (c : Int) (e : Ending) (w' : World) : Prop := ∃ vh ve vs nh ne ns, e = .returned (.tuple #[stV s.N s.L s.R vh ve vs, .int .i64 c]) ∧ StAt w' s vh ve vs nh ne ns ∧ Below w.heap.size w w'
theorem str_inj {a b : Sn.By} (h : str a = str b) : a = b := by
  unfold str at h
  have h2 := congrArg (fun x : ByteArray => x.data.toList) h
  simpa using h2
theorem str_list (l : Sn.By) : (str l).toList = l := ByteArray.toList_mk l
theorem num_w (l : Sn.By) (a : Nat) : Sn.num l a 8 ≤ 18446744073709551615 := by
  have := num_lt l a 8
  have e : (256 : Nat) ^ 8 = 18446744073709551616 := by decide
  omega
theorem wide_told (l : Sn.By) : Wide (Sn.told l) := by
  refine ⟨fun h hh => ?_, fun x hx => ?_⟩
  · obtain ⟨i, -, rfl⟩ := List.mem_map.1 hh
    exact ⟨Int.natCast_nonneg _, Int.natCast_nonneg _⟩
  · obtain ⟨i, -, rfl⟩ := List.mem_map.1 hx
    refine ⟨Int.natCast_nonneg _, ?_⟩
    have := num_w l (10 + Sn.num l 6 2 * Sn.num l 8 2 * 16 + 9 * i + 1)
    show ((Sn.num l (10 + Sn.num l 6 2 * Sn.num l 8 2 * 16 + 9 * i + 1) 8 : Nat) : Int) ≤ _
    omega
theorem told_es (l : Sn.By) (h : l.length ≤ 100000) : (Sn.told l).es.length ≤ 100000 := by
  show ((List.range _).map _).length ≤ _
  rw [List.length_map, List.length_range]
  omega
theorem StAt.call {w w' : World} {s : Sn.St} {vh ve vs : Value} {nh ne ns : Nat} (h : StAt w s vh ve vs nh ne ns) (hb : Below w.heap.size w w') : StAt w' s vh ve vs nh ne ns := ⟨h.1.call hb, h.2.1.call hb, h.2.2.call hb⟩
theorem Sl.far {w w' : World} {B sz n : Nat} {v : Value} {xs : List Value} (h : Sl w B sz v n xs) (hk : ∀ k, k < B → w'.heap[k]? = w.heap[k]?) : Sl w' B sz v n xs :=
  h.keep fun b o hb => World.cell?_of_block (a := ⟨b, o, none⟩) (hk b hb)
/-- The same, written out. -/
def StP (w : World) (s : Sn.St) (N L R : Int) (c : Value) (e : Ending) (w' : World) : Prop := ∃ A1 A2 A3 c1 c2 c3 nh ne ns, e = .returned (.tuple #[.agg #[.int .i64 N, .int .i64 L, .int .i64 R, .slice A1 nh c1, .slice A2 ne c2, .slice A3 ns c3], c]) ∧ StAt w' s (.slice A1 nh c1) (.slice A2 ne c2) (.slice A3 ns c3) nh ne ns ∧ Below w.heap.size w w'
/-- The same, in new blocks. -/
def StN (w : World) (s : Sn.St) (N L R : Int) (c : Value) (e : Ending) (w' : World) : Prop := ∃ A1 A2 A3 c1 c2 c3 nh ne ns, e = .returned (.tuple #[.agg #[.int .i64 N, .int .i64 L, .int .i64 R, .slice A1 nh c1, .slice A2 ne c2, .slice A3 ns c3], c]) ∧ StOwn w' w.heap.size s (.slice A1 nh c1) (.slice A2 ne c2) (.slice A3 ns c3) nh ne ns ∧ Below w.heap.size w w'
theorem ParPost.out {w w' : World} {s : Sn.St} {ok : Bool} {e : Ending} (h : ParPost w s ok e w') : StN w s s.N s.L s.R (.bool ok) e w' := by
  obtain ⟨vh, ve, vs, nh, ne, ns, rfl, ⟨T1, T2, T3⟩, hb⟩ := h
  obtain ⟨A1, c1, rfl, -⟩ := Sl.of_own T1
  obtain ⟨A2, c2, rfl, -⟩ := Sl.of_own T2
  obtain ⟨A3, c3, rfl, -⟩ := Sl.of_own T3
  exact ⟨A1, A2, A3, c1, c2, c3, nh, ne, ns, rfl, ⟨T1, T2, T3⟩, hb⟩
theorem ResPost.out {w w' : World} {s : Sn.St} {c : Int} {e : Ending} (h : ResPost w s c e w') : StP w s s.N s.L s.R (.int .i64 c) e w' := by
  obtain ⟨vh, ve, vs, nh, ne, ns, rfl, ⟨S1, S2, S3⟩, hb⟩ := h
  have T1 := S1
  have T2 := S2
  have T3 := S3
  obtain ⟨A1, c1, rfl, -⟩ := S1
  obtain ⟨A2, c2, rfl, -⟩ := S2
  obtain ⟨A3, c3, rfl, -⟩ := S3
  exact ⟨A1, A2, A3, c1, c2, c3, nh, ne, ns, rfl, ⟨T1, T2, T3⟩, hb⟩
set_option maxRecDepth 100000 in
set_option maxHeartbeats 8000000 in
theorem res_no {l : Sn.By} {w : World} (hl : l.length ≤ 100000) (hg : ¬ Good l) : Calls Try.prog 20 #[.string (str l)] w (ResPost w st0 12) := by
  have HG := hid hg
  have HL := hid hl
  clear hg
  obtain ⟨s, hs⟩ : ∃ s, s = str l := ⟨_, rfl⟩
  have HSS := hid hs
  rw [← hs]
  clear hs
  have PN : Hid (¬ Sn.Fits l → ∀ w : World, Calls Try.prog 36 #[.string s] w (StN w st0 0 0 0 (.bool false))) := hid (fun hf w => by rw [HSS.out]; exact (par_no HL.out hf).mono fun _ _ h => h.out)
  have PY : Hid (Sn.Fits l → ∀ w : World, Calls Try.prog 36 #[.string s] w (StN w (Sn.told l) (Sn.told l).N (Sn.told l).L (Sn.told l).R (.bool true))) := hid (fun hf w => by rw [HSS.out]; exact (par_yes HL.out hf).mono fun _ _ h => h.out)
  by_cases hf : Sn.Fits l
  case neg =>
    replace PN := hid (PN.out hf)
    clear PY hf
    obtain ⟨w1, hw1⟩ : ∃ W, W = w.alloc (.cells #[.int .i64 0, .int .i64 0, .int .i64 0, .slice none 0 0, .slice none 0 0, .slice none 0 0] 30) := ⟨_, rfl⟩
    obtain ⟨KR, hKR⟩ : ∃ K, K = w.heap.size := ⟨_, rfl⟩
    have DR : Hid (Blk w1 KR 30 [.int .i64 0, .int .i64 0, .int .i64 0, .slice none 0 0, .slice none 0 0, .slice none 0 0]) := hid (by rw [hw1, hKR]; exact Blk.new _ _ _)
    have HB1 : Hid (Below w.heap.size w w1) := hid (by rw [hw1]; exact bel_new _ _)
    have HK := hid hKR
    have HW := hid hw1
    have HS1 : Hid (w1.heap.size = w.heap.size + 1) := hid (by rw [hw1]; simp)
    clear hw1 hKR
    go_enter Try.func20, Try.ntmps20
    go_wp2_with fail
    rw [← HK.out, ← HW.out]
    refine (PN.out _).mono ?_; rintro e w2 ⟨A1, A2, A3, c1, c2, c3, nh, ne, ns, rfl, st_, b_⟩
    have HB2 := hid (Bl.call HB1.out b_)
    replace DR := hid (DR.out.below b_ DR.out.lt)
    clear b_
    have T1 := hid st_.1
    have T2 := hid st_.2.1
    have T3 := hid st_.2.2
    clear st_
    skip
    go_upto_region 2 with fail
    obtain ⟨w3, hw3⟩ : ∃ W, W = w2.alloc (.cells #[.int .i64 0, .int .i64 0, .int .i64 0, .slice A1 nh c1, .slice A2 ne c2, .slice A3 ns c3] 30) := ⟨_, rfl⟩
    obtain ⟨KS, hKS⟩ : ∃ K, K = w2.heap.size := ⟨_, rfl⟩
    have DS : Hid (Blk w3 KS 30 [.int .i64 0, .int .i64 0, .int .i64 0, .slice A1 nh c1, .slice A2 ne c2, .slice A3 ns c3]) := hid (by rw [hw3, hKS]; exact Blk.new _ _ _)
    have b3 : Below w2.heap.size w2 w3 := by rw [hw3]; exact bel_new _ _
    rw [← hw3, ← hKS]
    clear hw3 hKS
    replace DR := hid (DR.out.below b3 DR.out.lt)
    have HB3 := hid (Bl.call HB2.out b3)
    replace T1 := hid (own_below T1.out b3)
    replace T2 := hid (own_below T2.out b3)
    replace T3 := hid (own_below T3.out b3)
    clear b3
    have r0 := DR.out.cell 0
    have r1 := DR.out.cell 1
    have r2 := DR.out.cell 2
    have r3 := DR.out.cell 3
    have r4 := DR.out.cell 4
    have r5 := DR.out.cell 5
    have f0 := DR.out.frozen 0
    have f1 := DR.out.frozen 1
    have f2 := DR.out.frozen 2
    have f3 := DR.out.frozen 3
    have f4 := DR.out.frozen 4
    have f5 := DR.out.frozen 5
    go_wp2_with fail
    have Q6 := hid ((((((DR.out.put 0 (.int .i64 0)).put 1 (.int .i64 0)).put 2 (.int .i64 0)).put 3 (.slice none 0 0)).put 4 (.slice none 0 0)).put 5 (.slice none 0 0))
    have N6 := hid (((((((Only.refl KR w3).put 0 (.int .i64 0)).put 1 (.int .i64 0)).put 2 (.int .i64 0)).put 3 (.slice none 0 0)).put 4 (.slice none 0 0)).put 5 (.slice none 0 0))
    generalize ((((((w3.setCell ⟨KR, 0, none⟩ (.int .i64 0)).setCell ⟨KR, 1, none⟩ (.int .i64 0)).setCell ⟨KR, 2, none⟩ (.int .i64 0)).setCell ⟨KR, 3, none⟩ (.slice none 0 0)).setCell ⟨KR, 4, none⟩ (.slice none 0 0)).setCell ⟨KR, 5, none⟩ (.slice none 0 0)) = w9 at *
    have t0 := Q6.out.cell 0
    have t1 := Q6.out.cell 1
    have t2 := Q6.out.cell 2
    have t3 := Q6.out.cell 3
    have t4 := Q6.out.cell 4
    have t5 := Q6.out.cell 5
    refine bodyPost_ret (v := .tuple #[.agg #[.int .i64 0, .int .i64 0, .int .i64 0, .slice none 0 0, .slice none 0 0, .slice none 0 0], .int .i64 12]) (by simp [results, Try.results20, go_sem, t0, t1, t2, t3, t4, t5]) rfl ?_
    exact ⟨.slice none 0 0, .slice none 0 0, .slice none 0 0, 0, 0, 0, rfl, stat0 _, HB3.out.trans (N6.out.below (by have := HK.out; omega) HB3.out.size)⟩
  case pos =>
    replace PY := hid (PY.out hf)
    have HF := hid hf
    clear PN hf
    obtain ⟨S, hS⟩ : ∃ S, S = Sn.told l := ⟨_, rfl⟩
    have HS := hid hS
    rw [← hS] at PY
    clear hS
    by_cases hr : SRS S
    case pos =>
      have HR := hid hr
      clear hr
      have HNE : Hid (Sn.save S ≠ l) := hid (fun h => HG.out ⟨HF.out, by rw [← HS.out]; exact HR.out, by rw [← HS.out]; exact h⟩)
      obtain ⟨sv, hsv⟩ : ∃ sv, sv = str (Sn.save S) := ⟨_, rfl⟩
      have e1 : (sv.toList == s.toList) = false := by rw [beq_eq_false_iff_ne, hsv, HSS.out, str_list, str_list]; exact HNE.out
      have HSV := hid hsv
      clear hsv
      obtain ⟨w1, hw1⟩ : ∃ W, W = w.alloc (.cells #[.int .i64 0, .int .i64 0, .int .i64 0, .slice none 0 0, .slice none 0 0, .slice none 0 0] 30) := ⟨_, rfl⟩
      obtain ⟨KR, hKR⟩ : ∃ K, K = w.heap.size := ⟨_, rfl⟩
      have DR : Hid (Blk w1 KR 30 [.int .i64 0, .int .i64 0, .int .i64 0, .slice none 0 0, .slice none 0 0, .slice none 0 0]) := hid (by rw [hw1, hKR]; exact Blk.new _ _ _)
      have HB1 : Hid (Below w.heap.size w w1) := hid (by rw [hw1]; exact bel_new _ _)
      have HK := hid hKR
      have HW := hid hw1
      have HS1 : Hid (w1.heap.size = w.heap.size + 1) := hid (by rw [hw1]; simp)
      clear hw1 hKR
      go_enter Try.func20, Try.ntmps20
      go_wp2_with fail
      rw [← HK.out, ← HW.out]
      refine (PY.out _).mono ?_; rintro e w2 ⟨A1, A2, A3, c1, c2, c3, nh, ne, ns, rfl, st_, b_⟩
      have HB2 := hid (Bl.call HB1.out b_)
      replace DR := hid (DR.out.below b_ DR.out.lt)
      clear b_
      have T1 := hid st_.1
      have T2 := hid st_.2.1
      have T3 := hid st_.2.2
      clear st_
      skip
      go_upto_region 2 with fail
      obtain ⟨w3, hw3⟩ : ∃ W, W = w2.alloc (.cells #[.int .i64 S.N, .int .i64 S.L, .int .i64 S.R, .slice A1 nh c1, .slice A2 ne c2, .slice A3 ns c3] 30) := ⟨_, rfl⟩
      obtain ⟨KS, hKS⟩ : ∃ K, K = w2.heap.size := ⟨_, rfl⟩
      have DS : Hid (Blk w3 KS 30 [.int .i64 S.N, .int .i64 S.L, .int .i64 S.R, .slice A1 nh c1, .slice A2 ne c2, .slice A3 ns c3]) := hid (by rw [hw3, hKS]; exact Blk.new _ _ _)
      have b3 : Below w2.heap.size w2 w3 := by rw [hw3]; exact bel_new _ _
      rw [← hw3, ← hKS]
      clear hw3 hKS
      replace DR := hid (DR.out.below b3 DR.out.lt)
      have HB3 := hid (Bl.call HB2.out b3)
      replace T1 := hid (own_below T1.out b3)
      replace T2 := hid (own_below T2.out b3)
      replace T3 := hid (own_below T3.out b3)
      clear b3
      have HLE : Hid (ne ≤ 100000) := hid (by have h1 := T2.out.1; rw [len_eds, HS.out] at h1; have := told_es l HL.out; omega)
      have x0 := DS.out.cell 0
      have x1 := DS.out.cell 1
      have x2 := DS.out.cell 2
      have x3 := DS.out.cell 3
      have x4 := DS.out.cell 4
      have x5 := DS.out.cell 5
      go_wp2_with fail
      refine (save_any (Sl.of_own T1.out) (Sl.of_own T2.out) (Sl.of_own T3.out) HLE.out HR.out (by rw [HS.out]; exact wide_told l)).mono ?_; rintro e w4 ⟨rfl, b4⟩
      have HB4 := hid (Bl.call HB3.out b4)
      replace DR := hid (DR.out.below b4 DR.out.lt)
      clear b4 x0 x1 x2 x3 x4 x5
      rw [← HSV.out]
      have r0 := DR.out.cell 0
      have r1 := DR.out.cell 1
      have r2 := DR.out.cell 2
      have r3 := DR.out.cell 3
      have r4 := DR.out.cell 4
      have r5 := DR.out.cell 5
      have f0 := DR.out.frozen 0
      have f1 := DR.out.frozen 1
      have f2 := DR.out.frozen 2
      have f3 := DR.out.frozen 3
      have f4 := DR.out.frozen 4
      have f5 := DR.out.frozen 5
      go_wp2_with fail
      have Q6 := hid ((((((DR.out.put 0 (.int .i64 0)).put 1 (.int .i64 0)).put 2 (.int .i64 0)).put 3 (.slice none 0 0)).put 4 (.slice none 0 0)).put 5 (.slice none 0 0))
      have N6 := hid (((((((Only.refl KR w4).put 0 (.int .i64 0)).put 1 (.int .i64 0)).put 2 (.int .i64 0)).put 3 (.slice none 0 0)).put 4 (.slice none 0 0)).put 5 (.slice none 0 0))
      generalize ((((((w4.setCell ⟨KR, 0, none⟩ (.int .i64 0)).setCell ⟨KR, 1, none⟩ (.int .i64 0)).setCell ⟨KR, 2, none⟩ (.int .i64 0)).setCell ⟨KR, 3, none⟩ (.slice none 0 0)).setCell ⟨KR, 4, none⟩ (.slice none 0 0)).setCell ⟨KR, 5, none⟩ (.slice none 0 0)) = w9 at *
      have t0 := Q6.out.cell 0
      have t1 := Q6.out.cell 1
      have t2 := Q6.out.cell 2
      have t3 := Q6.out.cell 3
      have t4 := Q6.out.cell 4
      have t5 := Q6.out.cell 5
      refine bodyPost_ret (v := .tuple #[.agg #[.int .i64 0, .int .i64 0, .int .i64 0, .slice none 0 0, .slice none 0 0, .slice none 0 0], .int .i64 12]) (by simp [results, Try.results20, go_sem, t0, t1, t2, t3, t4, t5]) rfl ?_
      exact ⟨.slice none 0 0, .slice none 0 0, .slice none 0 0, 0, 0, 0, rfl, stat0 _, HB4.out.trans (N6.out.below (by have := HK.out; omega) HB4.out.size)⟩
    case neg =>
      have HR := hid hr
      clear hr
      obtain ⟨w1, hw1⟩ : ∃ W, W = w.alloc (.cells #[.int .i64 0, .int .i64 0, .int .i64 0, .slice none 0 0, .slice none 0 0, .slice none 0 0] 30) := ⟨_, rfl⟩
      obtain ⟨KR, hKR⟩ : ∃ K, K = w.heap.size := ⟨_, rfl⟩
      have DR : Hid (Blk w1 KR 30 [.int .i64 0, .int .i64 0, .int .i64 0, .slice none 0 0, .slice none 0 0, .slice none 0 0]) := hid (by rw [hw1, hKR]; exact Blk.new _ _ _)
      have HB1 : Hid (Below w.heap.size w w1) := hid (by rw [hw1]; exact bel_new _ _)
      have HK := hid hKR
      have HW := hid hw1
      have HS1 : Hid (w1.heap.size = w.heap.size + 1) := hid (by rw [hw1]; simp)
      clear hw1 hKR
      go_enter Try.func20, Try.ntmps20
      go_wp2_with fail
      rw [← HK.out, ← HW.out]
      refine (PY.out _).mono ?_; rintro e w2 ⟨A1, A2, A3, c1, c2, c3, nh, ne, ns, rfl, st_, b_⟩
      have HB2 := hid (Bl.call HB1.out b_)
      replace DR := hid (DR.out.below b_ DR.out.lt)
      clear b_
      have T1 := hid st_.1
      have T2 := hid st_.2.1
      have T3 := hid st_.2.2
      clear st_
      skip
      go_upto_region 2 with fail
      obtain ⟨w3, hw3⟩ : ∃ W, W = w2.alloc (.cells #[.int .i64 S.N, .int .i64 S.L, .int .i64 S.R, .slice A1 nh c1, .slice A2 ne c2, .slice A3 ns c3] 30) := ⟨_, rfl⟩
      obtain ⟨KS, hKS⟩ : ∃ K, K = w2.heap.size := ⟨_, rfl⟩
      have DS : Hid (Blk w3 KS 30 [.int .i64 S.N, .int .i64 S.L, .int .i64 S.R, .slice A1 nh c1, .slice A2 ne c2, .slice A3 ns c3]) := hid (by rw [hw3, hKS]; exact Blk.new _ _ _)
      have b3 : Below w2.heap.size w2 w3 := by rw [hw3]; exact bel_new _ _
      rw [← hw3, ← hKS]
      clear hw3 hKS
      replace DR := hid (DR.out.below b3 DR.out.lt)
      have HB3 := hid (Bl.call HB2.out b3)
      replace T1 := hid (own_below T1.out b3)
      replace T2 := hid (own_below T2.out b3)
      replace T3 := hid (own_below T3.out b3)
      clear b3
      have HLE : Hid (ne ≤ 100000) := hid (by have h1 := T2.out.1; rw [len_eds, HS.out] at h1; have := told_es l HL.out; omega)
      have x0 := DS.out.cell 0
      have x1 := DS.out.cell 1
      have x2 := DS.out.cell 2
      have x3 := DS.out.cell 3
      have x4 := DS.out.cell 4
      have x5 := DS.out.cell 5
      go_wp2_with fail
      refine (save_no (Sl.of_own T1.out) (Sl.of_own T2.out) (Sl.of_own T3.out) HLE.out HR.out).mono ?_; rintro e w4 ⟨rfl, b4⟩
      have HB4 := hid (Bl.call HB3.out b4)
      replace DR := hid (DR.out.below b4 DR.out.lt)
      clear b4 x0 x1 x2 x3 x4 x5
      generalize str [] = sv
      have r0 := DR.out.cell 0
      have r1 := DR.out.cell 1
      have r2 := DR.out.cell 2
      have r3 := DR.out.cell 3
      have r4 := DR.out.cell 4
      have r5 := DR.out.cell 5
      have f0 := DR.out.frozen 0
      have f1 := DR.out.frozen 1
      have f2 := DR.out.frozen 2
      have f3 := DR.out.frozen 3
      have f4 := DR.out.frozen 4
      have f5 := DR.out.frozen 5
      go_wp2_with fail
      have Q6 := hid ((((((DR.out.put 0 (.int .i64 0)).put 1 (.int .i64 0)).put 2 (.int .i64 0)).put 3 (.slice none 0 0)).put 4 (.slice none 0 0)).put 5 (.slice none 0 0))
      have N6 := hid (((((((Only.refl KR w4).put 0 (.int .i64 0)).put 1 (.int .i64 0)).put 2 (.int .i64 0)).put 3 (.slice none 0 0)).put 4 (.slice none 0 0)).put 5 (.slice none 0 0))
      generalize ((((((w4.setCell ⟨KR, 0, none⟩ (.int .i64 0)).setCell ⟨KR, 1, none⟩ (.int .i64 0)).setCell ⟨KR, 2, none⟩ (.int .i64 0)).setCell ⟨KR, 3, none⟩ (.slice none 0 0)).setCell ⟨KR, 4, none⟩ (.slice none 0 0)).setCell ⟨KR, 5, none⟩ (.slice none 0 0)) = w9 at *
      have t0 := Q6.out.cell 0
      have t1 := Q6.out.cell 1
      have t2 := Q6.out.cell 2
      have t3 := Q6.out.cell 3
      have t4 := Q6.out.cell 4
      have t5 := Q6.out.cell 5
      refine bodyPost_ret (v := .tuple #[.agg #[.int .i64 0, .int .i64 0, .int .i64 0, .slice none 0 0, .slice none 0 0, .slice none 0 0], .int .i64 12]) (by simp [results, Try.results20, go_sem, t0, t1, t2, t3, t4, t5]) rfl ?_
      exact ⟨.slice none 0 0, .slice none 0 0, .slice none 0 0, 0, 0, 0, rfl, stat0 _, HB4.out.trans (N6.out.below (by have := HK.out; omega) HB4.out.size)⟩
set_option maxRecDepth 100000 in
set_option maxHeartbeats 8000000 in
theorem res_yes {l : Sn.By} {w : World} (hl : l.length ≤ 100000) (hg : Good l) : Calls Try.prog 20 #[.string (str l)] w (ResPost w (Sn.told l) 0) := by
  have HG := hid hg
  have HL := hid hl
  clear hg
  obtain ⟨s, hs⟩ : ∃ s, s = str l := ⟨_, rfl⟩
  have HSS := hid hs
  rw [← hs]
  clear hs
  have PY : Hid (∀ w : World, Calls Try.prog 36 #[.string s] w (StN w (Sn.told l) (Sn.told l).N (Sn.told l).L (Sn.told l).R (.bool true))) := hid (fun w => by rw [HSS.out]; exact (par_yes HL.out HG.out.1).mono fun _ _ h => h.out)
  obtain ⟨S, hS⟩ : ∃ S, S = Sn.told l := ⟨_, rfl⟩
  have HS := hid hS
  rw [← hS] at PY
  rw [← hS]
  clear hS
  have HR : Hid (SRS S) := hid (by rw [HS.out]; exact HG.out.2.1)
  have HSV : Hid (str (Sn.save S) = s) := hid (by rw [HSS.out, HS.out, HG.out.2.2])
  obtain ⟨w1, hw1⟩ : ∃ W, W = w.alloc (.cells #[.int .i64 0, .int .i64 0, .int .i64 0, .slice none 0 0, .slice none 0 0, .slice none 0 0] 30) := ⟨_, rfl⟩
  obtain ⟨KR, hKR⟩ : ∃ K, K = w.heap.size := ⟨_, rfl⟩
  have DR : Hid (Blk w1 KR 30 [.int .i64 0, .int .i64 0, .int .i64 0, .slice none 0 0, .slice none 0 0, .slice none 0 0]) := hid (by rw [hw1, hKR]; exact Blk.new _ _ _)
  have HB1 : Hid (Below w.heap.size w w1) := hid (by rw [hw1]; exact bel_new _ _)
  have HK := hid hKR
  have HW := hid hw1
  have HS1 : Hid (w1.heap.size = w.heap.size + 1) := hid (by rw [hw1]; simp)
  clear hw1 hKR
  go_enter Try.func20, Try.ntmps20
  go_wp2_with fail
  rw [← HK.out, ← HW.out]
  refine (PY.out _).mono ?_; rintro e w2 ⟨A1, A2, A3, c1, c2, c3, nh, ne, ns, rfl, st_, b_⟩
  have HB2 := hid (Bl.call HB1.out b_)
  replace DR := hid (DR.out.below b_ DR.out.lt)
  clear b_
  have T1 := hid st_.1
  have T2 := hid st_.2.1
  have T3 := hid st_.2.2
  clear st_
  skip
  go_upto_region 2 with fail
  obtain ⟨w3, hw3⟩ : ∃ W, W = w2.alloc (.cells #[.int .i64 S.N, .int .i64 S.L, .int .i64 S.R, .slice A1 nh c1, .slice A2 ne c2, .slice A3 ns c3] 30) := ⟨_, rfl⟩
  obtain ⟨KS, hKS⟩ : ∃ K, K = w2.heap.size := ⟨_, rfl⟩
  have DS : Hid (Blk w3 KS 30 [.int .i64 S.N, .int .i64 S.L, .int .i64 S.R, .slice A1 nh c1, .slice A2 ne c2, .slice A3 ns c3]) := hid (by rw [hw3, hKS]; exact Blk.new _ _ _)
  have b3 : Below w2.heap.size w2 w3 := by rw [hw3]; exact bel_new _ _
  rw [← hw3, ← hKS]
  clear hw3 hKS
  replace DR := hid (DR.out.below b3 DR.out.lt)
  have HB3 := hid (Bl.call HB2.out b3)
  replace T1 := hid (own_below T1.out b3)
  replace T2 := hid (own_below T2.out b3)
  replace T3 := hid (own_below T3.out b3)
  clear b3
  have HLE : Hid (ne ≤ 100000) := hid (by have h1 := T2.out.1; rw [len_eds, HS.out] at h1; have := told_es l HL.out; omega)
  have x0 := DS.out.cell 0
  have x1 := DS.out.cell 1
  have x2 := DS.out.cell 2
  have x3 := DS.out.cell 3
  have x4 := DS.out.cell 4
  have x5 := DS.out.cell 5
  go_wp2_with fail
  refine (save_any (Sl.of_own T1.out) (Sl.of_own T2.out) (Sl.of_own T3.out) HLE.out HR.out (by rw [HS.out]; exact wide_told l)).mono ?_; rintro e w4 ⟨rfl, b4⟩
  have HB4 := hid (Bl.call HB3.out b4)
  replace DR := hid (DR.out.below b4 DR.out.lt)
  replace DS := hid (DS.out.below b4 DS.out.lt)
  replace T1 := hid (own_below T1.out b4)
  replace T2 := hid (own_below T2.out b4)
  replace T3 := hid (own_below T3.out b4)
  clear b4 x0 x1 x2 x3 x4 x5
  rw [HSV.out]
  have x0 := DS.out.cell 0
  have x1 := DS.out.cell 1
  have x2 := DS.out.cell 2
  have x3 := DS.out.cell 3
  have x4 := DS.out.cell 4
  have x5 := DS.out.cell 5
  have r0 := DR.out.cell 0
  have r1 := DR.out.cell 1
  have r2 := DR.out.cell 2
  have r3 := DR.out.cell 3
  have r4 := DR.out.cell 4
  have r5 := DR.out.cell 5
  have f0 := DR.out.frozen 0
  have f1 := DR.out.frozen 1
  have f2 := DR.out.frozen 2
  have f3 := DR.out.frozen 3
  have f4 := DR.out.frozen 4
  have f5 := DR.out.frozen 5
  go_wp2_with fail
  have Q6 := hid ((((((DR.out.put 0 (.int .i64 S.N)).put 1 (.int .i64 S.L)).put 2 (.int .i64 S.R)).put 3 (.slice A1 nh c1)).put 4 (.slice A2 ne c2)).put 5 (.slice A3 ns c3))
  have N6 := hid (((((((Only.refl KR w4).put 0 (.int .i64 S.N)).put 1 (.int .i64 S.L)).put 2 (.int .i64 S.R)).put 3 (.slice A1 nh c1)).put 4 (.slice A2 ne c2)).put 5 (.slice A3 ns c3))
  generalize ((((((w4.setCell ⟨KR, 0, none⟩ (.int .i64 S.N)).setCell ⟨KR, 1, none⟩ (.int .i64 S.L)).setCell ⟨KR, 2, none⟩ (.int .i64 S.R)).setCell ⟨KR, 3, none⟩ (.slice A1 nh c1)).setCell ⟨KR, 4, none⟩ (.slice A2 ne c2)).setCell ⟨KR, 5, none⟩ (.slice A3 ns c3)) = w9 at *
  have t0 := Q6.out.cell 0
  have t1 := Q6.out.cell 1
  have t2 := Q6.out.cell 2
  have t3 := Q6.out.cell 3
  have t4 := Q6.out.cell 4
  have t5 := Q6.out.cell 5
  refine bodyPost_ret (v := .tuple #[.agg #[.int .i64 S.N, .int .i64 S.L, .int .i64 S.R, .slice A1 nh c1, .slice A2 ne c2, .slice A3 ns c3], .int .i64 0]) (by simp [results, Try.results20, go_sem, t0, t1, t2, t3, t4, t5]) rfl ?_
  exact ⟨.slice A1 nh c1, .slice A2 ne c2, .slice A3 ns c3, nh, ne, ns, rfl, ⟨Sl.of_own (own_only T1.out N6.out (by have := HK.out; have := HS1.out; omega)), Sl.of_own (own_only T2.out N6.out (by have := HK.out; have := HS1.out; omega)), Sl.of_own (own_only T3.out N6.out (by have := HK.out; have := HS1.out; omega))⟩, HB4.out.trans (N6.out.below (by have := HK.out; omega) HB4.out.size)⟩
end Go.Proofs.Ytbafbnkmmpaomaa
