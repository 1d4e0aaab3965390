/- Contracts of sketch.Merge (refused), sketch.Toggle, sketch.Names. -/
import Derived.Test.YtomgbhnalhddiaaSkB
namespace Go.Proofs.Ytomgbhnalhddiaa
open Go.RowKit
set_option linter.unusedVariables false
set_option linter.unusedSimpArgs false

theorem merge_no {r v r2 v2 : Int} {A A2 : Option Addr} {n c n2 c2 : Nat} {w : World} (h : ¬ (SOk r v n ∧ SOk r2 v2 n2 ∧ r = r2 ∧ v = v2)) :
    Calls Try.prog 10 #[.agg #[.int .i64 r, .int .i64 v, .slice A n c], .agg #[.int .i64 r2, .int .i64 v2, .slice A2 n2 c2]] w fun e w' => e = .returned (.tuple #[.agg #[.int .i64 0, .int .i64 0, .slice none 0 0], .int .i64 1]) ∧ Below w.heap.size w w' := by
  obtain ⟨wx0, hwx0⟩ : ∃ z, z = w.alloc (.cells #[.int .i64 r, .int .i64 v, .slice A n c] 26) := ⟨_, rfl⟩
  obtain ⟨wx1, hwx1⟩ : ∃ z, z = wx0.alloc (.cells #[.int .i64 r2, .int .i64 v2, .slice A2 n2 c2] 26) := ⟨_, rfl⟩
  obtain ⟨w0, hw0⟩ : ∃ z, z = wx1.alloc (.cells #[.int .i64 0, .int .i64 0, .slice none 0 0] 26) := ⟨_, rfl⟩
  obtain ⟨K2, hK2⟩ : ∃ K, K = w.heap.size := ⟨_, rfl⟩
  have s0 : wx0.heap.size = K2 + 1 := by rw [hwx0]; simp [hK2]
  have q0 : Below w.heap.size w wx0 := by rw [hwx0]; exact bel_new _ _
  have s1 : wx1.heap.size = K2 + 2 := by rw [hwx1]; simp [s0]
  have q1 : Below wx0.heap.size wx0 wx1 := by rw [hwx1]; exact bel_new _ _
  have s2 : w0.heap.size = K2 + 3 := by rw [hw0]; simp [s1]
  have q2 : Below wx1.heap.size wx1 w0 := by rw [hw0]; exact bel_new _ _
  have B2 : Hid (Blk w0 (K2) 26 [.int .i64 r, .int .i64 v, .slice A n c]) := hid (by rw [hK2]; exact (((show Blk wx0 w.heap.size 26 [.int .i64 r, .int .i64 v, .slice A n c] by rw [hwx0]; exact Blk.new _ _ _).on q1).on q2))
  have B3 : Hid (Blk w0 (K2 + 1) 26 [.int .i64 r2, .int .i64 v2, .slice A2 n2 c2]) := hid (by rw [← s0]; exact ((show Blk wx1 wx0.heap.size 26 [.int .i64 r2, .int .i64 v2, .slice A2 n2 c2] by rw [hwx1]; exact Blk.new _ _ _).on q2))
  have B4 : Hid (Blk w0 (K2 + 2) 26 [.int .i64 0, .int .i64 0, .slice none 0 0]) := hid (by rw [← s1]; exact (show Blk w0 wx1.heap.size 26 [.int .i64 0, .int .i64 0, .slice none 0 0] by rw [hw0]; exact Blk.new _ _ _))
  have HB0 : Hid (Below w.heap.size w w0) := hid (Bl.call (Bl.call q0 q1) q2)
  have HW : Hid (w0 = (((w.alloc (.cells #[.int .i64 r, .int .i64 v, .slice A n c] 26)).alloc (.cells #[.int .i64 r2, .int .i64 v2, .slice A2 n2 c2] 26)).alloc (.cells #[.int .i64 0, .int .i64 0, .slice none 0 0] 26))) := hid (by rw [hw0, hwx1, hwx0])
  have HK : Hid (K2 = w.heap.size) := hid hK2
  clear hK2 hwx0 hwx1 hw0 s0 q0 s1 q1 s2 q2
  by_cases h1 : SOk r v n
  · have H1 := hid h1
    by_cases h2 : SOk r2 v2 n2
    · have H2 := hid h2
      by_cases h3 : r = r2
      · have h4 : ¬ v = v2 := fun e => h ⟨h1, h2, h3, e⟩
        have t0 : (r != r2) = false := by simp [h3]
        have t1 : (v != v2) = true := by simp [h4]
        clear h h1 h2 h3 h4
        go_enter Try.func10, Try.ntmps10
        go_upto_region 1 with (fail)
        rw [← HW.out, ← HK.out]
        have e0 := B2.out.cell 0
        have e1 := B2.out.cell 1
        have e2 := B2.out.cell 2
        go_wp2_with fail
        refine (sright_yes H1.out _).mono ?_; rintro e w1 ⟨rfl, b1⟩
        clear e0 e1 e2
        have HB1 := hid (Bl.call HB0.out b1)
        replace B2 := hid (B2.out.on b1)
        replace B3 := hid (B3.out.on b1)
        replace B4 := hid (B4.out.on b1)
        clear b1
        have d0 := B3.out.cell 0
        have d1 := B3.out.cell 1
        have d2 := B3.out.cell 2
        go_wp2_with fail
        refine (sright_yes H2.out _).mono ?_; rintro e w2 ⟨rfl, b2⟩
        clear d0 d1 d2
        have HB2 := hid (Bl.call HB1.out b2)
        replace B2 := hid (B2.out.on b2)
        replace B3 := hid (B3.out.on b2)
        replace B4 := hid (B4.out.on b2)
        clear b2
        have e0 := B2.out.cell 0
        have e1 := B2.out.cell 1
        have e2 := B2.out.cell 2
        have d0 := B3.out.cell 0
        have d1 := B3.out.cell 1
        have d2 := B3.out.cell 2
        have g0 := B4.out.cell 0
        have g1 := B4.out.cell 1
        have g2 := B4.out.cell 2
        have z0 := B4.out.frozen 0
        have z1 := B4.out.frozen 1
        have z2 := B4.out.frozen 2
        have hK5 : w.heap.size ≤ K2 + 2 := by rw [HK.out]; omega
        go_wp2
        exact bodyPost_ret (v := .tuple #[.agg #[.int .i64 0, .int .i64 0, .slice none 0 0], .int .i64 1]) (by simp [results, Try.results10, go_sem, g0, g1, g2]) rfl ⟨rfl, (((HB2.out).setCell (p := ⟨K2 + 2, 0, none⟩) hK5 _).setCell (p := ⟨K2 + 2, 1, none⟩) hK5 _).setCell (p := ⟨K2 + 2, 2, none⟩) hK5 _⟩
      · have t0 : (r != r2) = true := by simp [h3]
        clear h h1 h2 h3
        go_enter Try.func10, Try.ntmps10
        go_upto_region 1 with (fail)
        rw [← HW.out, ← HK.out]
        have e0 := B2.out.cell 0
        have e1 := B2.out.cell 1
        have e2 := B2.out.cell 2
        go_wp2_with fail
        refine (sright_yes H1.out _).mono ?_; rintro e w1 ⟨rfl, b1⟩
        clear e0 e1 e2
        have HB1 := hid (Bl.call HB0.out b1)
        replace B2 := hid (B2.out.on b1)
        replace B3 := hid (B3.out.on b1)
        replace B4 := hid (B4.out.on b1)
        clear b1
        have d0 := B3.out.cell 0
        have d1 := B3.out.cell 1
        have d2 := B3.out.cell 2
        go_wp2_with fail
        refine (sright_yes H2.out _).mono ?_; rintro e w2 ⟨rfl, b2⟩
        clear d0 d1 d2
        have HB2 := hid (Bl.call HB1.out b2)
        replace B2 := hid (B2.out.on b2)
        replace B3 := hid (B3.out.on b2)
        replace B4 := hid (B4.out.on b2)
        clear b2
        have e0 := B2.out.cell 0
        have e1 := B2.out.cell 1
        have e2 := B2.out.cell 2
        have d0 := B3.out.cell 0
        have d1 := B3.out.cell 1
        have d2 := B3.out.cell 2
        have g0 := B4.out.cell 0
        have g1 := B4.out.cell 1
        have g2 := B4.out.cell 2
        have z0 := B4.out.frozen 0
        have z1 := B4.out.frozen 1
        have z2 := B4.out.frozen 2
        have hK5 : w.heap.size ≤ K2 + 2 := by rw [HK.out]; omega
        go_wp2
        exact bodyPost_ret (v := .tuple #[.agg #[.int .i64 0, .int .i64 0, .slice none 0 0], .int .i64 1]) (by simp [results, Try.results10, go_sem, g0, g1, g2]) rfl ⟨rfl, (((HB2.out).setCell (p := ⟨K2 + 2, 0, none⟩) hK5 _).setCell (p := ⟨K2 + 2, 1, none⟩) hK5 _).setCell (p := ⟨K2 + 2, 2, none⟩) hK5 _⟩
    · have H2 := hid h2
      clear h h1 h2
      go_enter Try.func10, Try.ntmps10
      go_upto_region 1 with (fail)
      rw [← HW.out, ← HK.out]
      have e0 := B2.out.cell 0
      have e1 := B2.out.cell 1
      have e2 := B2.out.cell 2
      go_wp2_with fail
      refine (sright_yes H1.out _).mono ?_; rintro e w1 ⟨rfl, b1⟩
      clear e0 e1 e2
      have HB1 := hid (Bl.call HB0.out b1)
      replace B2 := hid (B2.out.on b1)
      replace B3 := hid (B3.out.on b1)
      replace B4 := hid (B4.out.on b1)
      clear b1
      have d0 := B3.out.cell 0
      have d1 := B3.out.cell 1
      have d2 := B3.out.cell 2
      go_wp2_with fail
      refine (sright_no H2.out _).mono ?_; rintro e w2 ⟨rfl, b2⟩
      clear d0 d1 d2
      have HB2 := hid (Bl.call HB1.out b2)
      replace B2 := hid (B2.out.on b2)
      replace B3 := hid (B3.out.on b2)
      replace B4 := hid (B4.out.on b2)
      clear b2
      have g0 := B4.out.cell 0
      have g1 := B4.out.cell 1
      have g2 := B4.out.cell 2
      have z0 := B4.out.frozen 0
      have z1 := B4.out.frozen 1
      have z2 := B4.out.frozen 2
      have hK5 : w.heap.size ≤ K2 + 2 := by rw [HK.out]; omega
      go_wp2
      exact bodyPost_ret (v := .tuple #[.agg #[.int .i64 0, .int .i64 0, .slice none 0 0], .int .i64 1]) (by simp [results, Try.results10, go_sem, g0, g1, g2]) rfl ⟨rfl, (((HB2.out).setCell (p := ⟨K2 + 2, 0, none⟩) hK5 _).setCell (p := ⟨K2 + 2, 1, none⟩) hK5 _).setCell (p := ⟨K2 + 2, 2, none⟩) hK5 _⟩
  · have H1 := hid h1
    clear h h1
    go_enter Try.func10, Try.ntmps10
    go_upto_region 1 with (fail)
    rw [← HW.out, ← HK.out]
    have e0 := B2.out.cell 0
    have e1 := B2.out.cell 1
    have e2 := B2.out.cell 2
    go_wp2_with fail
    refine (sright_no H1.out _).mono ?_; rintro e w1 ⟨rfl, b1⟩
    clear e0 e1 e2
    have HB1 := hid (Bl.call HB0.out b1)
    replace B2 := hid (B2.out.on b1)
    replace B3 := hid (B3.out.on b1)
    replace B4 := hid (B4.out.on b1)
    clear b1
    have g0 := B4.out.cell 0
    have g1 := B4.out.cell 1
    have g2 := B4.out.cell 2
    have z0 := B4.out.frozen 0
    have z1 := B4.out.frozen 1
    have z2 := B4.out.frozen 2
    have hK5 : w.heap.size ≤ K2 + 2 := by rw [HK.out]; omega
    go_wp2
    exact bodyPost_ret (v := .tuple #[.agg #[.int .i64 0, .int .i64 0, .slice none 0 0], .int .i64 1]) (by simp [results, Try.results10, go_sem, g0, g1, g2]) rfl ⟨rfl, (((HB1.out).setCell (p := ⟨K2 + 2, 0, none⟩) hK5 _).setCell (p := ⟨K2 + 2, 1, none⟩) hK5 _).setCell (p := ⟨K2 + 2, 2, none⟩) hK5 _⟩

def isEndsV (n : Nat) : Value := if Sk.isE n then .tuple #[.int .i64 ((n / 16777216 : Nat) : Int), .int .i64 ((n % 16777216 : Nat) : Int), .bool true] else .tuple #[.int .i64 0, .int .i64 0, .bool false]
theorem ends_yes {n : Nat} (hn : n < 18446744073709551616) (h : Sk.isE n = true) (w : World) : Calls Try.prog 24 #[.int .u64 (n : Int)] w fun e w' => e = .returned (.tuple #[.int .i64 ((n : Int) / 16777216), .int .i64 ((n : Int) % 16777216), .bool true]) ∧ w = w' := by
  have h' : n / 16777216 < n % 16777216 := by unfold Sk.isE at h; simpa using h
  have t0 : ¬ ((n : Int) % 16777216 ≤ (n : Int) / 16777216) := by omega
  clear h h'
  go_enter Try.func24, Try.ntmps24
  go_wp2
  refine bodyPost_ret (v := .tuple #[.int .i64 ((n : Int) / 16777216), .int .i64 ((n : Int) % 16777216), .bool true]) ?_ rfl ⟨rfl, rfl⟩
  simp [results, Try.results24, go_sem]
theorem ends_no {n : Nat} (hn : n < 18446744073709551616) (h : Sk.isE n = false) (w : World) : Calls Try.prog 24 #[.int .u64 (n : Int)] w fun e w' => e = .returned (.tuple #[.int .i64 0, .int .i64 0, .bool false]) ∧ w = w' := by
  have h' : n % 16777216 ≤ n / 16777216 := by unfold Sk.isE at h; simpa using h
  have t0 : (n : Int) % 16777216 ≤ (n : Int) / 16777216 := by omega
  clear h h'
  go_enter Try.func24, Try.ntmps24
  go_wp2
  refine bodyPost_ret (v := .tuple #[.int .i64 0, .int .i64 0, .bool false]) ?_ rfl ⟨rfl, rfl⟩
  simp [results, Try.results24, go_sem]

def NmPost (ws : List Nat) (w : World) (e : Ending) (w' : World) : Prop := ∃ v', e = .returned v' ∧ Sl w' w'.heap.size 1 v' (Sk.nms ws).length (us (Sk.nms ws)) ∧ Below w.heap.size w w'
theorem snames_ok {r v : Int} {va : Value} {n : Nat} {xs : List Nat} {w : World} (h : SOk r v n) (ha : Sl w w.heap.size 1 va n (us xs)) (sa : Sk.Small xs) :
    Calls Try.prog 15 #[.agg #[.int .i64 r, .int .i64 v, va]] w (NmPost xs w) := by
  have H := hid h
  have hn : n ≤ 488 := by
    obtain ⟨⟨h1, h2, h3, h4⟩, h5⟩ := h
    have : r * v ≤ 8 * 61 := Int.mul_le_mul h2 h4 (by omega) (by omega)
    omega
  have hal : xs.length = n := by have := ha.len; rw [len_us] at this; omega
  have HL := hid hal
  have HS := hid sa
  obtain ⟨A, c, rfl, hnc, hcm, hl1, hx1⟩ := ha
  have HX := hid hx1
  clear h hal sa hx1 hl1 hcm
  obtain ⟨w0, hw0⟩ : ∃ z, z = w.alloc (.cells #[.int .i64 r, .int .i64 v, .slice A n c] 26) := ⟨_, rfl⟩
  obtain ⟨K2, hK2⟩ : ∃ K, K = w.heap.size := ⟨_, rfl⟩
  have s0 : w0.heap.size = K2 + 1 := by rw [hw0]; simp [hK2]
  have q0 : Below w.heap.size w w0 := by rw [hw0]; exact bel_new _ _
  have B2 : Hid (Blk w0 (K2) 26 [.int .i64 r, .int .i64 v, .slice A n c]) := hid (by rw [hK2]; exact (show Blk w0 w.heap.size 26 [.int .i64 r, .int .i64 v, .slice A n c] by rw [hw0]; exact Blk.new _ _ _))
  have HB0 : Hid (Below w.heap.size w w0) := hid q0
  have HW : Hid (w0 = (w.alloc (.cells #[.int .i64 r, .int .i64 v, .slice A n c] 26))) := hid (by rw [hw0])
  have HK : Hid (K2 = w.heap.size) := hid hK2
  clear hK2 hw0 s0 q0
  have e0 := B2.out.cell 0
  have e1 := B2.out.cell 1
  have e2 := B2.out.cell 2
  have hni : (n : Int) ≤ 488 := by omega
  go_enter Try.func15, Try.ntmps15
  go_upto_region 1 with (fail)
  rw [← HW.out, ← HK.out]
  go_wp2_with fail
  refine (sright_yes H.out _).mono ?_; rintro e w1 ⟨rfl, b1⟩
  have HB1 := hid (Bl.call HB0.out b1)
  have C2 := hid (B2.out.on b1)
  clear b1 e0 e1 e2
  have e2 := C2.out.cell 2
  go_wp2_with fail
  go_loopw [3, 15] (fun nv i wr => ∃ k : Nat, i = .int .i64 (k : Int) ∧ k ≤ n ∧ Hid (wr.ownsRow w1.heap.size 31 1 nv (Sk.nms (xs.take k)).length (us (Sk.nms (xs.take k)))) ∧ Hid (Below w1.heap.size w1 wr)) (fun _ i _ => n - (intOf i).toNat)
  case atStart => exact ⟨0, rfl, Nat.zero_le _, World.ownsRow_nil _ _ _ _, hid (Below.refl _ _)⟩
  case round =>
    obtain ⟨k, rfl, hk, HO, HB⟩ := hrel
    clear e2
    by_cases hlt : k < n
    · have hki : (k : Int) < (n : Int) := by omega
      obtain ⟨b, o, rfl, hbb, hc⟩ := HX.out (by omega)
      have hkx : k < xs.length := by rw [HL.out]; exact hlt
      have q0 := us_cell hc hkx
      have c0 := ((HB1.out.trans (HB.out.mono HB1.out.size)).cell (p := ⟨b, o + k, none⟩) hbb).trans q0
      have hst := Sk.nms_step xs k hkx
      have hln := Sk.nms_len (xs.take k)
      have hln2 : (Sk.nms (xs.take k)).length ≤ 488 := by rw [List.length_take] at hln; omega
      have hsm := Sk.small_getD HS.out k
      have hgd : xs.getD k 0 = xs[k] := by simp [List.getD, hkx]
      rw [← hgd] at hst
      have HST := hid hst
      generalize xs.getD k 0 = x at *
      have HSZ := hid HB.out.size
      have HLN := hid hln2
      clear q0 hc hst hln hgd hln2
      cases hE : Sk.isE x
      · have HE := hid hE
        clear hE
        go_wp2_with fail
        refine (ends_no hsm HE.out _).mono ?_; rintro e w' ⟨rfl, rfl⟩
        go_wp2
        go_roundw
        case rel => exact ⟨k + 1, by go_num, by omega, by rw [HST.out, HE.out]; simpa using HO, HB⟩
        case measure => simp [intOf]; omega
      · have HE := hid hE
        clear hE
        go_wp2_with fail
        refine (ends_yes hsm HE.out _).mono ?_; rintro e w' ⟨rfl, rfl⟩
        go_wp2_with (at_builtin; refine wl_app1 rfl _ _ Tus rfl (news := [.int .u64 (x : Int)]) rfl HO.out rfl rfl (us_one [x]) (by have := HLN.out; omega) HSZ.out ?_)
        intro v5 w5 hO5 hB5
        have HO5 := hid hO5
        have HB5 := hid (HB.out.trans hB5)
        clear hO5 hB5
        go_wp2
        go_roundw
        case rel => exact ⟨k + 1, by go_num, by omega, by rw [HST.out, HE.out, ← us_app, List.length_append]; exact HO5, HB5⟩
        case measure => simp [intOf]; omega
    · obtain rfl : k = n := by omega
      have hki : ¬ (k : Int) < (k : Int) := by omega
      go_wp2
      go_ret
      exact ⟨_, rfl, by rw [List.take_of_length_le (by rw [HL.out]; exact Nat.le_refl _)] at HO; exact Sl.of_own HO.out, HB1.out.trans (HB.out.mono HB1.out.size)⟩
end Go.Proofs.Ytomgbhnalhddiaa
