/- Contract of sketch.Merge. -/
import Derived.Test.YtomgbhnalhddiaaSkA
import Derived.Laws.Bits64
namespace Go.Proofs.Ytomgbhnalhddiaa
open Go.RowKit
set_option linter.unusedVariables false
set_option linter.unusedSimpArgs false

theorem Blk.on {w w' : World} {K : Nat} {T : TypeId} {cs : List Value} (h : Blk w K T cs) (hb : Below w.heap.size w w') : Blk w' K T cs := h.below hb h.lt
theorem own_far {w : World} {base : Nat} {e : TypeId} {sz n g c : Nat} {xs : List Value} (h : w.ownsRow base e sz (.slice (some ⟨g, 0, none⟩) n c) n xs) {p : Addr} (hp : g ≠ p.block) (u : Value) : (w.setCell p u).ownsRow base e sz (.slice (some ⟨g, 0, none⟩) n c) n xs := by
  refine ⟨h.1, ?_⟩
  rcases h.2 with hn | ⟨k, cap, cur, hv, hbk, hh, rest⟩
  · exact .inl hn
  · injection hv with h1 h2 h3
    injection h1 with h1
    injection h1 with h1 _ _
    subst h1 h3
    exact .inr ⟨g, c, cur, rfl, hbk, (Below.heap_setCell w p u g hp).trans hh, rest⟩
/-- What a sketch's function answers: a sketch of these words, and the error's number. -/
def SkPost (r v : Int) (n : Nat) (ws : List Nat) (w : World) (e : Ending) (w' : World) : Prop :=
  ∃ v', e = .returned (.tuple #[.agg #[.int .i64 r, .int .i64 v, v'], .int .i64 0]) ∧ Sl w' w'.heap.size 1 v' n (us ws) ∧ Below w.heap.size w w'

set_option maxHeartbeats 2000000 in
theorem merge_ok {r v : Int} {va vb : Value} {n : Nat} {xs ys : List Nat} {w : World} (h : SOk r v n) (ha : Sl w w.heap.size 1 va n (us xs)) (hb : Sl w w.heap.size 1 vb n (us ys)) (sa : Sk.Small xs) (sb : Sk.Small ys) :
    Calls Try.prog 10 #[.agg #[.int .i64 r, .int .i64 v, va], .agg #[.int .i64 r, .int .i64 v, vb]] w (SkPost r v n (Sk.xors xs ys) w) := by
  have H := hid h
  have hn : n ≤ 488 := by
    obtain ⟨⟨h1, h2, h3, h4⟩, h5⟩ := h
    have : r * v ≤ 8 * 61 := Int.mul_le_mul h2 h4 (by omega) (by omega)
    omega
  have hal : xs.length = n := by have := ha.len; rw [len_us] at this; omega
  have hbl : ys.length = n := by have := hb.len; rw [len_us] at this; omega
  have HL := hid (And.intro hal hbl)
  have HS := hid (And.intro sa sb)
  obtain ⟨A, c, rfl, hnc, hcm, hl1, hx1⟩ := ha
  obtain ⟨A2, c2, rfl, hnc2, hcm2, hl2, hx2⟩ := hb
  have HA : Hid (Sl w w.heap.size 1 (.slice A n c) n (us xs)) := hid ⟨A, c, rfl, hnc, hcm, hl1, hx1⟩
  have HX2 := hid hx2
  obtain ⟨wa, hwa⟩ : ∃ wa, wa = w.alloc (.cells #[.int .i64 r, .int .i64 v, .slice A n c] 26) := ⟨_, rfl⟩
  obtain ⟨wb, hwb⟩ : ∃ wb, wb = wa.alloc (.cells #[.int .i64 r, .int .i64 v, .slice A2 n c2] 26) := ⟨_, rfl⟩
  obtain ⟨w0, hw0⟩ : ∃ w0, w0 = wb.alloc (.cells #[.int .i64 0, .int .i64 0, .slice none 0 0] 26) := ⟨_, rfl⟩
  obtain ⟨K2, hK2⟩ : ∃ K, K = w.heap.size := ⟨_, rfl⟩
  have s1 : wa.heap.size = K2 + 1 := by rw [hwa, hK2]; simp
  have s2 : wb.heap.size = K2 + 2 := by rw [hwb]; simp [s1]
  have s3 : w0.heap.size = K2 + 3 := by rw [hw0]; simp [s2]
  have ba : Below w.heap.size w wa := by rw [hwa]; exact bel_new _ _
  have bb : Below wa.heap.size wa wb := by rw [hwb]; exact bel_new _ _
  have bc : Below wb.heap.size wb w0 := by rw [hw0]; exact bel_new _ _
  have B2 : Hid (Blk w0 K2 26 [.int .i64 r, .int .i64 v, .slice A n c]) := hid (by rw [hK2]; exact ((show Blk wa w.heap.size 26 [.int .i64 r, .int .i64 v, .slice A n c] by rw [hwa]; exact Blk.new _ _ _).on bb).on bc)
  have B3 : Hid (Blk w0 (K2 + 1) 26 [.int .i64 r, .int .i64 v, .slice A2 n c2]) := hid (by rw [← s1]; exact (show Blk wb wa.heap.size 26 [.int .i64 r, .int .i64 v, .slice A2 n c2] by rw [hwb]; exact Blk.new _ _ _).on bc)
  have B4 : Hid (Blk w0 (K2 + 2) 26 [.int .i64 0, .int .i64 0, .slice none 0 0]) := hid (by rw [← s2, hw0]; exact Blk.new _ _ _)
  have HB0 : Hid (Below w.heap.size w w0) := hid (Bl.call (Bl.call ba bb) bc)
  have HW : Hid (w0 = ((w.alloc (.cells #[.int .i64 r, .int .i64 v, .slice A n c] 26)).alloc (.cells #[.int .i64 r, .int .i64 v, .slice A2 n c2] 26)).alloc (.cells #[.int .i64 0, .int .i64 0, .slice none 0 0] 26)) := hid (by rw [hw0, hwb, hwa])
  have HK : Hid (K2 = w.heap.size) := hid hK2
  have r0 : (r != r) = false := by simp
  have v0 : (v != v) = false := by simp
  have e0 := B2.out.cell 0
  have e1 := B2.out.cell 1
  have e2 := B2.out.cell 2
  have d0 := B3.out.cell 0
  have d1 := B3.out.cell 1
  have d2 := B3.out.cell 2
  clear hx1 hx2 hl1 hl2 hcm hcm2 h hal hbl sa sb hwa hwb hw0 ba bb bc hK2 s1 s2 s3
  go_enter Try.func10, Try.ntmps10
  go_upto_region 1 with (fail)
  rw [← HW.out, ← HK.out]
  go_wp2_with fail
  refine (sright_yes H.out _).mono ?_; rintro e w1 ⟨rfl, b1⟩
  have HB1 := hid (Bl.call HB0.out b1)
  have B2' := hid (B2.out.on b1)
  have B3' := hid (B3.out.on b1)
  have B4' := hid (B4.out.on b1)
  clear B2 B3 B4 e0 e1 e2 d0 d1 d2 b1
  have d0 := B3'.out.cell 0
  have d1 := B3'.out.cell 1
  have d2 := B3'.out.cell 2
  go_wp2_with fail
  refine (sright_yes H.out _).mono ?_; rintro e w2 ⟨rfl, b2⟩
  have HB2 := hid (Bl.call HB1.out b2)
  have B2 := hid (B2'.out.on b2)
  have B3 := hid (B3'.out.on b2)
  have B4 := hid (B4'.out.on b2)
  clear B2' B3' B4' d0 d1 d2 b2
  have e0 := B2.out.cell 0
  have e1 := B2.out.cell 1
  have e2 := B2.out.cell 2
  have d0 := B3.out.cell 0
  have d1 := B3.out.cell 1
  go_wp2_with fail
  refine (uclone_any _ _ _ _ _ (HA.out.call HB2.out) (Nat.le_refl _) (by omega)).mono ?_; rintro e w3 ⟨v3, rfl, ho, b3⟩
  have HB3 := hid (Bl.call HB2.out b3)
  have B2' := hid (B2.out.on b3)
  have B3' := hid (B3.out.on b3)
  have B4' := hid (B4.out.on b3)
  have HO : Hid (w3.ownsRow w2.heap.size 31 1 v3 n (us (Sk.xorK xs ys 0))) := hid (by rw [Sk.xorK_zero]; exact ho)
  clear e0 e1 e2 d0 d1
  have d2 := B3'.out.cell 2
  have hn1 : 0 < n := by
    obtain ⟨⟨h1, h2, h3, h4⟩, h5⟩ := H.out
    have : 0 < r * v := Int.mul_pos (by omega) (by omega)
    omega
  obtain ⟨g3, c3, rfl, hg3, _⟩ := own_form ho hn1
  have BL2 : Hid (Below w2.heap.size w2 w3) := hid b3
  clear ho b3
  have hni : (n : Int) ≤ 488 := by omega
  go_wp2_with fail
  go_loopw [38] (fun i wr => ∃ k : Nat, i = .int .i64 (k : Int) ∧ k ≤ n ∧ Hid (wr.ownsRow w2.heap.size 31 1 (.slice (some ⟨g3, 0, none⟩) n c3) n (us (Sk.xorK xs ys k))) ∧ Hid (Below w2.heap.size w2 wr)) (fun i _ => n - (intOf i).toNat)
  case atStart => exact ⟨0, rfl, Nat.zero_le _, HO, BL2⟩
  case round =>
    clear HO BL2 d2
    obtain ⟨k, rfl, hk, HO, HB⟩ := hrel
    by_cases hlt : k < n
    · have hki : (k : Int) < (n : Int) := by omega
      obtain ⟨b, o, rfl, hbb, hc⟩ := HX2.out (by omega)
      have q0 := us_cell hc (k := k) (by rw [HL.out.2]; exact hlt)
      have c0 := ((HB2.out.trans (HB.out.mono HB2.out.size)).cell (p := ⟨b, o + k, none⟩) hbb).trans q0
      have c1 : wr.cell? ⟨g3, k, none⟩ = some (.int .u64 (xs.getD k 0 : Nat)) := by
        rw [HO.out.cellAt k (by omega), us_at _ _ (by rw [Sk.len_xorK, HL.out.1]; exact hlt), Sk.xorK_at]
      have f1 := HO.out.frozenAt k
      have HST := hid (Sk.xorK_step xs ys k)
      have ha := Sk.small_getD HS.out.1 k
      have hb := Sk.small_getD HS.out.2 k
      clear hc q0
      generalize xs.getD k 0 = x at *
      generalize ys.getD k 0 = y at *
      have HAB := hid (And.intro ha hb)
      have hxy := bits_xor_u64_nat x y ha hb
      clear ha hb
      go_wp2
      go_roundw
      case rel => exact ⟨k + 1, by go_num, by omega, by rw [← HST.out, ← us_set]; exact (HO.out.stored k _).1, HB.out.setCell hg3 _⟩
      case measure => simp [intOf]; omega
    · obtain rfl : k = n := by omega
      have hki : ¬ (k : Int) < (k : Int) := by omega
      have C2 := hid (B2.out.below HB.out B2.out.lt)
      have C4 := hid (B4.out.below HB.out B4.out.lt)
      have e0 := C2.out.cell 0
      have e1 := C2.out.cell 1
      have g0 := C4.out.cell 0
      have g1 := C4.out.cell 1
      have g2 := C4.out.cell 2
      have f0 := C4.out.frozen 0
      have f1 := C4.out.frozen 1
      have f2 := C4.out.frozen 2
      have HF : Hid (Sk.xorK xs ys k = Sk.xors xs ys) := hid (by rw [← HL.out.1]; exact Sk.xorK_all xs ys (by rw [HL.out.1, HL.out.2]))
      have HBW := hid (HB2.out.trans (HB.out.mono HB2.out.size))
      have hK4 : K2 + 2 < w2.heap.size := B4.out.lt
      have hK5 : w.heap.size ≤ K2 + 2 := by rw [HK.out]; omega
      go_wp2
      have hsl : Sl (((wr.setCell ⟨K2 + 2, 0, none⟩ (.int .i64 r)).setCell ⟨K2 + 2, 1, none⟩ (.int .i64 v)).setCell ⟨K2 + 2, 2, none⟩ (.slice (some ⟨g3, 0, none⟩) k c3)) (((wr.setCell ⟨K2 + 2, 0, none⟩ (.int .i64 r)).setCell ⟨K2 + 2, 1, none⟩ (.int .i64 v)).setCell ⟨K2 + 2, 2, none⟩ (.slice (some ⟨g3, 0, none⟩) k c3)).heap.size 1 (.slice (some ⟨g3, 0, none⟩) k c3) k (us (Sk.xors xs ys)) := by
        rw [← HF.out]
        have hne : g3 ≠ K2 + 2 := by omega
        exact Sl.of_own (own_far (own_far (own_far HO.out (p := ⟨K2 + 2, 0, none⟩) hne (.int .i64 r)) (p := ⟨K2 + 2, 1, none⟩) hne (.int .i64 v)) (p := ⟨K2 + 2, 2, none⟩) hne (.slice (some ⟨g3, 0, none⟩) k c3))
      exact bodyPost_ret (v := .tuple #[.agg #[.int .i64 r, .int .i64 v, .slice (some ⟨g3, 0, none⟩) k c3], .int .i64 0]) (by simp [results, Try.results10, go_sem, g0, g1, g2]) rfl ⟨_, rfl, hsl, ((HBW.out.setCell (p := ⟨K2 + 2, 0, none⟩) hK5 _).setCell (p := ⟨K2 + 2, 1, none⟩) hK5 _).setCell (p := ⟨K2 + 2, 2, none⟩) hK5 _⟩
end Go.Proofs.Ytomgbhnalhddiaa
