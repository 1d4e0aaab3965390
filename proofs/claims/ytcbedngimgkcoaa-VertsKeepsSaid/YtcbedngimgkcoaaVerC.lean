/- Contract of verts.keyed. -/
import Derived.Test.YtcbedngimgkcoaaVerB
import Derived.Deep.Cut
import Derived.Deep.DeepCutAuto
namespace Go.Proofs.Ytcbedngimgkcoaa
open Go.RowKit
set_option linter.unusedVariables false
set_option linter.unusedSimpArgs false
theorem IsD.other {w : World} {K : Nat} {T : TypeId} {u : Value} {v : Option Addr} {l : List (Int × Int)} (h : IsD w v l) (hb : Blk w K T [u]) (u' : Value) : IsD (w.setCell ⟨K, 0, none⟩ u') v l := by
  obtain ⟨t, h1, h2, h3, h4⟩ := h
  refine ⟨t, ?_, h2, h3, h4⟩
  have := h1.other hb u'
  simpa [World.setCell] using this
def kd (l : List (Bool × Int)) : Option (List (Int × Int)) := if 1 ≤ l.length ∧ l.length ≤ 1024 then Vt.keyed l else none
def KeyedPost (l : List (Bool × Int)) (w : World) (e : Ending) (w' : World) : Prop := ∃ pt, e = .returned (.tuple #[.agg #[.pointer pt], .bool (kd l).isSome]) ∧ IsD w' pt ((kd l).getD []) ∧ Below w.heap.size w w'
theorem keyed_any {v : Value} {n : Nat} {l : List (Bool × Int)} {w : World} (hl : Sl w w.heap.size 2 v n (sls l)) :
    Calls Try.prog 24 #[v] w (KeyedPost l w) := by
  have hll : l.length = n := by have := hl.len; rw [len_sls] at this; omega
  have HLN := hid hll
  have HLw := hid hl
  obtain ⟨A, c, rfl, hnc, hcm, _, hx⟩ := hl
  have HX := hid hx
  have hmi : (n : Int) ≤ 9223372036854775807 := by unfold maxLen at hcm; omega
  clear hx hll hcm hnc
  have HB : Hid (Below w.heap.size w w) := hid (Below.refl _ _)
  have Z_r : Hid (IsD w none []) := hid (IsD.none_ _)
  have Z_d : Hid (IsD w none []) := hid (IsD.none_ _)
  obtain ⟨w1, hw⟩ : ∃ w1, w1 = w.alloc (.cells #[.pointer none] 60) := ⟨_, rfl⟩
  obtain ⟨Kr, hK⟩ : ∃ Kr, Kr = w.heap.size := ⟨_, rfl⟩
  have b : Below w.heap.size w w1 := by rw [hw]; exact bel_new _ _
  have D_r' : Hid (Blk w1 Kr 60 [.pointer none]) := hid (by rw [hw, hK]; exact Blk.new w _ [.pointer none])
  have I_r' := hid (Z_r.out.call b)
  have LO_r : Hid (w.heap.size ≤ Kr) := hid (by rw [hK]; exact HB.out.size)
  replace HLw := hid (HLw.out.call b)
  replace Z_d := hid (Z_d.out.call b)
  replace HB := hid (Bl.call HB.out b)
  have D_r := D_r'
  have I_r := I_r'
  have HW1 := hid hw
  have HK1 := hid hK
  clear b hw hK D_r' I_r' Z_r
  obtain ⟨w2, hw⟩ : ∃ w2, w2 = w1.alloc (.cells #[.pointer none] 60) := ⟨_, rfl⟩
  obtain ⟨Kd, hK⟩ : ∃ Kd, Kd = w1.heap.size := ⟨_, rfl⟩
  have b : Below w1.heap.size w1 w2 := by rw [hw]; exact bel_new _ _
  have D_d' : Hid (Blk w2 Kd 60 [.pointer none]) := hid (by rw [hw, hK]; exact Blk.new w1 _ [.pointer none])
  have I_d' := hid (Z_d.out.call b)
  have LO_d : Hid (w.heap.size ≤ Kd) := hid (by rw [hK]; exact HB.out.size)
  have NErd : Hid (Kr ≠ Kd) := hid (by have := D_r.out.lt; omega)
  have NEdr : Hid (Kd ≠ Kr) := hid (by have := D_r.out.lt; omega)
  replace D_r := hid (D_r.out.below b D_r.out.lt)
  replace I_r := hid (I_r.out.call b)
  replace HLw := hid (HLw.out.call b)
  replace HB := hid (Bl.call HB.out b)
  have D_d := D_d'
  have I_d := I_d'
  have HW2 := hid hw
  have HK2 := hid hK
  clear b hw hK D_d' I_d' Z_d
  go_enter Try.func24, Try.ntmps24
  go_upto_region 2 with (fail)
  have HKQ : Hid (Kd = Kr + 1) := hid (by rw [HK2.out, HW1.out, HK1.out]; simp)
  rw [← HW1.out, ← HK1.out, ← HW2.out, ← HKQ.out]
  have c_r : w2.cell? ⟨Kr, 0, none⟩ = some (.pointer none) := D_r.out.cell 0
  have f_r : w2.frozen? ⟨Kr, 0, none⟩ = false := D_r.out.frozen 0
  have c_d : w2.cell? ⟨Kd, 0, none⟩ = some (.pointer none) := D_d.out.cell 0
  have f_d : w2.frozen? ⟨Kd, 0, none⟩ = false := D_d.out.frozen 0
  by_cases hz : 1 ≤ n ∧ n ≤ 1024
  case neg =>
    have hk : Hid (kd l = none) := hid (by unfold kd; rw [if_neg (by rw [HLN.out]; exact hz)])
    have HZ : Hid (¬ (1 ≤ (n : Int) ∧ (n : Int) ≤ 1024)) := hid (by omega)
    clear hz c_r f_r c_d f_d
    go_wp2_with fail
    refine (vsized_no HZ.out _).mono ?_; rintro e w' ⟨rfl, rfl⟩
    have c_r := D_r.out.cell 0
    have f_r := D_r.out.frozen 0
    have c_d := D_d.out.cell 0
    go_wp2
    exact bodyPost_ret (v := .tuple #[.agg #[.pointer none], .bool false]) (by simp [results, Try.results24, go_sem, c_r]) rfl ⟨none, by rw [hk.out]; rfl, by rw [hk.out]; exact ((I_d.out.other D_r.out (.pointer none))), HB.out.setCell (p := ⟨Kr, 0, none⟩) LO_r.out _⟩
  case pos =>
    have hk : Hid (kd l = Vt.keyed l) := hid (by unfold kd; rw [if_pos (by rw [HLN.out]; exact hz)])
    have HZ : Hid (1 ≤ (n : Int) ∧ (n : Int) ≤ 1024) := hid (by omega)
    have hn2 : n ≤ 1024 := hz.2
    clear hz c_r f_r c_d f_d
    go_wp2_with fail
    refine (vsized_yes HZ.out _).mono ?_; rintro e w' ⟨rfl, rfl⟩
    go_wp2_with fail
    go_loopw [16] (fun iv wr => ∃ (j : Nat) (pt : Option Addr) (d : List (Int × Int)), iv = .int .i64 (j : Int) ∧ j ≤ n ∧ Hid (Vt.keyed (l.take j) = some d) ∧ Hid (Blk wr Kr 60 [.pointer none]) ∧ Hid (Blk wr Kd 60 [.pointer pt]) ∧ Hid (IsD wr pt d) ∧ Hid (Below w.heap.size w wr)) (fun iv _ => n - (intOf iv).toNat)
    case atStart => exact ⟨0, none, [], rfl, Nat.zero_le _, hid rfl, D_r, D_d, I_d, HB⟩
    case round =>
      clear D_r D_d I_d HB
      obtain ⟨j, pt, d, rfl, hj, HKD, D_r, D_d, I_d, HB⟩ := hrel
      by_cases hlt : j < n
      · have hji : (j : Int) < (n : Int) := by omega
        have hkl : j < l.length := by rw [HLN.out]; exact hlt
        obtain ⟨b, o, rfl, hbb, hc⟩ := HX.out (by omega)
        obtain ⟨q0, q1⟩ := sls_cell hc hkl
        have c0 := (HB.out.cell (p := ⟨b, o + j * 2, none⟩) hbb).trans q0
        have c1 := (HB.out.cell (p := ⟨b, o + j * 2 + 1, none⟩) hbb).trans q1
        have hst := Vt.keyed_take l j hkl
        rw [HKD.out] at hst
        have HLEN : Hid (d.length ≤ 100000) := hid (by rcases Vt.keyed_cases (l.take j) with ⟨d', h1, h2, _⟩ | ⟨h1, _⟩; (· rw [HKD.out] at h1; cases h1; have := h2.2.1; rw [List.length_take] at this; omega); (· rw [HKD.out] at h1; cases h1))
        generalize l[j] = s at *
        obtain ⟨u, k⟩ := s
        have HST := hid hst
        clear hst q0 q1 hc
        cases u with
        | false =>
          by_cases hk0 : k = 0
          · subst hk0
            have HN := hid (bel_new wr (.cells #[.bool false, .int .u64 0] 55))
            go_wp2
            go_roundw
            case rel => exact ⟨j + 1, pt, d, by go_num, by omega, hid (by rw [HST.out]; rfl), hid (D_r.out.below HN.out D_r.out.lt), hid (D_d.out.below HN.out D_d.out.lt), hid (I_d.out.call HN.out), hid (Bl.call HB.out HN.out)⟩
            case measure => simp [intOf]; omega
          · have hkb : (k != 0) = true := by simp [hk0]
            have hkk : Hid (kd l = none) := hid (by rw [hk.out]; exact Vt.keyed_none l (j + 1) (by rw [HST.out]; simp [Vt.kstep, hk0]))
            have HN := hid (bel_new wr (.cells #[.bool false, .int .u64 k] 55))
            have D2 := hid (D_r.out.below HN.out D_r.out.lt)
            have c_r := D2.out.cell 0
            have f_r := D2.out.frozen 0
            go_wp2
            exact bodyPost_ret (v := .tuple #[.agg #[.pointer none], .bool false]) (by simp [results, Try.results24, go_sem, c_r]) rfl ⟨none, by rw [hkk.out]; rfl, by rw [hkk.out]; exact IsD.none_ _, (Bl.call HB.out HN.out).setCell (p := ⟨Kr, 0, none⟩) LO_r.out _⟩
        | true =>
          have HN := hid (bel_new wr (.cells #[.bool true, .int .u64 k] 55))
          have D2 := hid (D_d.out.below HN.out D_d.out.lt)
          have c_d := D2.out.cell 0
          go_wp2_with fail
          refine (get_any (k := k) (I_d.out.call HN.out) HLEN.out).mono ?_; rintro e w5 ⟨rfl, b5⟩
          have SB := hid ((Blk.new wr 55 [.bool true, .int .u64 k]).below b5 (by simp))
          have HB5 := hid (Bl.call (Bl.call HB.out HN.out) b5)
          have D5r := hid ((D_r.out.below HN.out D_r.out.lt).below b5 (D_r.out.below HN.out D_r.out.lt).lt)
          have D5d := hid (D2.out.below b5 D2.out.lt)
          have I5 := hid ((I_d.out.call HN.out).call b5)
          clear c_d b5 c0 c1 D2
          cases hg : Dc.get d k with
          | some m =>
            have hkk : Hid (kd l = none) := hid (by rw [hk.out]; exact Vt.keyed_none l (j + 1) (by rw [HST.out]; simp [Vt.kstep, hg]))
            have c_r := D5r.out.cell 0
            have f_r := D5r.out.frozen 0
            go_wp2
            exact bodyPost_ret (v := .tuple #[.agg #[.pointer none], .bool false]) (by simp [results, Try.results24, go_sem, c_r]) rfl ⟨none, by rw [hkk.out]; rfl, by rw [hkk.out]; exact IsD.none_ _, HB5.out.setCell (p := ⟨Kr, 0, none⟩) LO_r.out _⟩
          | none =>
            have HG := hid hg
            clear hg
            have c_d := D5d.out.cell 0
            have s_1 := SB.out.cell 1
            go_wp2_with fail
            refine (put_any (k := k) (n := (j : Int)) I5.out HLEN.out).mono ?_; rintro e w6 ⟨v6, rfl, i6, b6⟩
            have D6r := hid (D5r.out.below b6 D5r.out.lt)
            have D6d := hid (D5d.out.below b6 D5d.out.lt)
            have I6 := hid i6
            have HB6 := hid (Bl.call HB5.out b6)
            clear i6 b6 c_d s_1
            have c_d := D6d.out.cell 0
            have f_d := D6d.out.frozen 0
            go_wp2
            go_roundw
            case rel => exact ⟨j + 1, v6, Dc.put d k (j : Int), by go_num, by omega, hid (by rw [HST.out]; simp [Vt.kstep, HG.out]), hid (D6r.out.far NErd.out _), hid (D6d.out.put 0 _), hid (I6.out.other D6d.out (.pointer v6)), hid (HB6.out.setCell (p := ⟨Kd, 0, none⟩) LO_d.out _)⟩
            case measure => simp [intOf]; omega
      · obtain rfl : j = n := by omega
        have hji : ¬ (j : Int) < (j : Int) := by omega
        have hkk : Hid (kd l = some d) := hid (by rw [hk.out, ← HKD.out, List.take_of_length_le (by rw [HLN.out]; exact Nat.le_refl _)])
        have c_r := D_r.out.cell 0
        have f_r := D_r.out.frozen 0
        have c_d := D_d.out.cell 0
        go_wp2
        exact bodyPost_ret (v := .tuple #[.agg #[.pointer pt], .bool true]) (by simp [results, Try.results24, go_sem, c_r]) rfl ⟨pt, by rw [hkk.out]; rfl, by rw [hkk.out]; exact ((I_d.out.other D_r.out (.pointer pt))), HB.out.setCell (p := ⟨Kr, 0, none⟩) LO_r.out _⟩
end Go.Proofs.Ytcbedngimgkcoaa
