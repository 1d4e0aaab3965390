/- Contracts of raftsmanlaw05.same, small; the document's Value, Bound, Words. -/
import Derived.Test.YtomgbhnalhddiaaSkD
import Derived.Test.YtomgbhnalhddiaaModG
import Derived.Deep.RegionHeld3
import Derived.Deep.DrawnRows
namespace Go.Proofs.Ytomgbhnalhddiaa
open Go.RowKit
set_option linter.unusedVariables false
set_option linter.unusedSimpArgs false
attribute [local go_sem ↓] Go.wp_at_zero Go.wp_at_succ

theorem lsame_is {r v : Int} {va vb : Value} {n : Nat} {p : List Nat} {w : World} (ha : Sl w w.heap.size 1 va n (us p)) (hb : Sl w w.heap.size 1 vb n (us p)) :
    Calls Try.prog 12 #[.agg #[.int .i64 r, .int .i64 v, va], .int .i64 r, .int .i64 v, vb] w fun e w' => e = .returned (.bool true) ∧ Below w.heap.size w w' := by
  have HA := hid ha
  have HB := hid hb
  obtain ⟨A, c, rfl, _, _, _, _⟩ := ha
  have r0 : (r == r) = true := by simp
  have v0 : (v == v) = true := by simp
  have hb0 := bel_new w (.cells #[.int .i64 r, .int .i64 v, .slice A n c] 26)
  have HB0 := hid hb0
  clear hb hb0
  go_enter Try.func12, Try.ntmps12
  go_wp2_with fail
  refine (usame_is true (by unfold usameB; simp) (HA.out.new _) (HB.out.new _)).mono ?_; rintro e w1 ⟨rfl, q1⟩
  go_wp2
  go_ret
  exact ⟨rfl, Bl.qt HB0.out q1⟩
theorem lsmall_is {r v : Int} {va : Value} {n B : Nat} {xs : List Value} {w : World} (b : Bool) (hs : Sl w B 1 va n xs) (h : decide (n ≤ 600) = b) :
    Calls Try.prog 16 #[.agg #[.int .i64 r, .int .i64 v, va]] w fun e w' => e = .returned (.bool b) ∧ Below w.heap.size w w' := by
  obtain ⟨A, c, rfl, _, _, _, _⟩ := hs
  have H : Hid (decide ((n : Int) ≤ 600) = b) := hid (by rw [← h]; congr 1; simp; omega)
  have hb0 := bel_new w (.cells #[.int .i64 r, .int .i64 v, .slice A n c] 26)
  have HB0 := hid hb0
  clear hb0 h
  go_enter Try.func16, Try.ntmps16
  go_wp2
  go_ret
  exact ⟨ret_bool H.out, HB0.out⟩

set_option maxRecDepth 100000 in
theorem refValue_z {x z : Int} {w : World} (h : Nat × Nat) (n : Nat) (hh : HSmall h) (hx : x = (n : Int)) (hn : n < 18446744073709551616) (hz : ((Sk.val h n : Nat) : Int) = z) :
    Calls Try.prog 21 #[hashV h, .int .u64 x] w fun e w' => e = .returned (.int .u64 z) ∧ Below w.heap.size w w' := by
  subst hx hz
  obtain ⟨A, B⟩ := h
  obtain ⟨h1, h2⟩ := hh
  have M : ∀ k, Calls Try.prog 28 #[.int .u64 (A : Int), .int .u64 (n : Int)] ((w.alloc (.cells #[.int .u64 (A : Int), .int .u64 (B : Int)] 46)).drewN k) fun e w'' => e = .returned (.int .u64 ((Md.mul A n : Nat) : Int)) ∧ ∃ m, w'' = (w.alloc (.cells #[.int .u64 (A : Int), .int .u64 (B : Int)] 46)).drewN m :=
    fun k => quiet_eq (refMul_z A n rfl rfl h1 hn rfl)
  have D : ∀ k, Calls Try.prog 27 #[.int .u64 ((Md.mul A n : Nat) : Int), .int .u64 (B : Int)] ((w.alloc (.cells #[.int .u64 (A : Int), .int .u64 (B : Int)] 46)).drewN k) fun e w'' => e = .returned (.int .u64 ((Sk.val (A, B) n : Nat) : Int)) ∧ ∃ m, w'' = (w.alloc (.cells #[.int .u64 (A : Int), .int .u64 (B : Int)] 46)).drewN m :=
    fun k => quiet_eq (refAdd_z (Md.mul A n) B rfl rfl (small_mul _ _) h2 rfl)
  have HM := hid M
  have HD := hid D
  have HB := hid (bel_new w (.cells #[.int .u64 (A : Int), .int .u64 (B : Int)] 46))
  clear M D
  unfold hashV
  go_enter Try.func21, Try.ntmps21
  go_wp2_with fail
  go_quiet (first | (go_at_call 28; with_reducible exact HM.out _) | (go_at_call 27; with_reducible exact HD.out _))
  go_wp2
  go_ret
  exact ⟨rfl, Bl.qt HB.out (qt_of _ _)⟩

theorem bnd_lt (j : Nat) : Sk.bnd j < 2305843009213693952 := by have := Sk.bnd_le 0 j (Nat.zero_le _); rw [Sk.bnd_zero, Md.P_eq] at this; omega
theorem refBound_z {j : Nat} (hj : j ≤ 60) (w : World) :
    Calls Try.prog 22 #[.int .i64 (j : Int)] w fun e w' => e = .returned (.int .u64 (Sk.bnd j : Nat)) ∧ w = w' := by
  have i1 : (j : Int) ≤ 60 := by omega
  have HZ : Hid ((2305843009213693951 : Int) = (Sk.bnd 0 : Nat)) := hid (by rw [Sk.bnd_zero, Md.P_eq]; rfl)
  go_enter Try.func22, Try.ntmps22
  go_wp2
  go_loop [3, 4] (fun nv iv => ∃ k : Nat, iv = .int .i64 (k : Int) ∧ k ≤ j ∧ nv = .int .u64 (Sk.bnd k : Nat)) (fun _ iv => j - (intOf iv).toNat)
  case atStart => exact ⟨0, rfl, Nat.zero_le _, by rw [← HZ.out]⟩
  case round =>
    obtain ⟨k, rfl, hk, rfl⟩ := hrel
    by_cases hlt : k < j
    · have hl := bnd_lt k
      have HST := hid (Sk.bnd_succ k)
      generalize Sk.bnd k = b at *
      have hki : (k : Int) < (j : Int) := by omega
      go_wp2
      go_round
      case rel => exact ⟨k + 1, by go_num, by omega, by rw [HST.out]; simp⟩
      case measure => simp [intOf]; omega
    · obtain rfl : k = j := by omega
      have hki : ¬ (k : Int) < (k : Int) := by omega
      go_wp2
      go_ret
      exact ⟨rfl, rfl⟩

theorem ref_at (l : List (Nat × Nat)) (v : Nat) (ns : List Nat) {r j : Nat} (hr : r < l.length) (hj : j < v) : (Sk.refWords l v ns).take (r * v + (j + 1)) = (Sk.refWords l v ns).take (r * v + j) ++ [Sk.word l[r] j ns 0] := by
  have hlt : r * v + j < l.length * v := by
    have h1 : (r + 1) * v ≤ l.length * v := Nat.mul_le_mul_right v hr
    rw [Nat.add_mul] at h1; omega
  have hlen : r * v + j < (Sk.refWords l v ns).length := by unfold Sk.refWords; simpa using hlt
  rw [← Nat.add_assoc, List.take_succ_eq_append_getElem hlen]
  congr 2
  unfold Sk.refWords
  have e1 : (r * v + j) / v = r := by rw [Nat.mul_comm, Nat.mul_add_div (by omega), Nat.div_eq_of_lt hj]; rfl
  have e2 : (r * v + j) % v = j := by rw [Nat.mul_comm, Nat.mul_add_mod, Nat.mod_eq_of_lt hj]
  simp [e1, e2, List.getD, hr]
theorem small_word (h : Nat × Nat) (j : Nat) {ns : List Nat} (hn : Sk.Small ns) (w : Nat) (hw : w < 18446744073709551616) : Sk.word h j ns w < 18446744073709551616 := by
  unfold Sk.word
  induction ns generalizing w with
  | nil => exact hw
  | cons n ns ih =>
    refine ih (fun x hx => hn x (by simp [hx])) _ ?_
    show Sk.tog1 h n j w < _
    unfold Sk.tog1
    split
    · exact Sk.xor_lt _ _ hw (hn n (by simp))
    · exact hw
theorem word_take (h : Nat × Nat) (j : Nat) (ns : List Nat) {i : Nat} (hi : i < ns.length) : Sk.word h j (ns.take (i + 1)) 0 = Sk.tog1 h ns[i] j (Sk.word h j (ns.take i) 0) := by
  rw [List.take_succ_eq_append_getElem hi, Sk.word_snoc]

def WdPost (ws : List Nat) (w : World) (e : Ending) (w' : World) : Prop := ∃ v', e = .returned v' ∧ Sl w' w'.heap.size 1 v' ws.length (us ws) ∧ Below w.heap.size w w'
set_option maxRecDepth 100000 in
set_option maxHeartbeats 4000000 in
theorem words_any {V R m : Nat} {l : List (Nat × Nat)} {ns : List Nat} {v1 v2 : Value} {w : World} (hl : Sl w w.heap.size 2 v1 R (hcs l)) (hm : Sl w w.heap.size 1 v2 m (us ns)) (hR : R ≤ 8) (hV : V ≤ 61) (sn : Sk.Small ns) (sh : ∀ h ∈ l, HSmall h) :
    Calls Try.prog 11 #[v1, .int .i64 (V : Int), v2] w (WdPost (Sk.refWords l V ns) w) := by
  have hll : l.length = R := by have := hl.len; rw [len_hcs] at this; omega
  have hnl : ns.length = m := by have := hm.len; rw [len_us] at this; omega
  have HL := hid (And.intro hll hnl)
  have HS := hid (And.intro sn sh)
  obtain ⟨A, c, rfl, _, _, _, hx⟩ := hl
  obtain ⟨A2, c2, rfl, hnc2, hcm2, _, hx2⟩ := hm
  have HX := hid hx
  have HX2 := hid hx2
  have HRL : Hid ((Sk.refWords l V ns).length = R * V) := hid (by unfold Sk.refWords; simp [hll])
  have hRi : (R : Int) ≤ 8 := by omega
  have hVi : (V : Int) ≤ 61 := by omega
  have hmi : (m : Int) ≤ 9223372036854775807 := by unfold maxLen at hcm2; omega
  clear hx hx2 hll hnl sn sh hcm2
  go_enter Try.func11, Try.ntmps11
  go_wp2
  go_loopw [7, 8] (fun ov rv wr => ∃ r : Nat, rv = .int .i64 (r : Int) ∧ r ≤ R ∧ Hid (wr.ownsRow w.heap.size 31 1 ov ((Sk.refWords l V ns).take (r * V + 0)).length (us ((Sk.refWords l V ns).take (r * V + 0)))) ∧ Hid (Below w.heap.size w wr)) (fun _ rv _ => R - (intOf rv).toNat)
  case atStart => exact ⟨0, rfl, Nat.zero_le _, by simp; exact World.ownsRow_nil _ _ _ _, hid (Below.refl _ _)⟩
  case round =>
    obtain ⟨r, rfl, hr, HO, HB⟩ := hrel
    by_cases hlt : r < R
    · have hri : (r : Int) < (R : Int) := by omega
      have hrl : r < l.length := by rw [HL.out.1]; exact hlt
      go_wp2
      go_loopw [7, 9] (fun ov jv wr => ∃ j : Nat, jv = .int .i64 (j : Int) ∧ j ≤ V ∧ Hid (wr.ownsRow w.heap.size 31 1 ov ((Sk.refWords l V ns).take (r * V + j)).length (us ((Sk.refWords l V ns).take (r * V + j)))) ∧ Hid (Below w.heap.size w wr)) (fun _ jv _ => V - (intOf jv).toNat)
      case atStart => exact ⟨0, rfl, Nat.zero_le _, HO, HB⟩
      case round =>
        clear HO HB
        obtain ⟨j, rfl, hj, HO, HB⟩ := hrel
        by_cases hjlt : j < V
        · have hji : (j : Int) < (V : Int) := by omega
          have hj60 : (j : Int) ≤ 60 := by omega
          have HST := hid (ref_at l V ns hrl hjlt)
          have hsh := HS.out.2 _ (List.getElem_mem hrl)
          have HGD : Hid (∃ h, h = l[r]) := hid ⟨_, rfl⟩
          obtain ⟨h, hh⟩ := HGD.out
          rw [← hh] at HST hsh
          have HH := hid (And.intro hh hsh)
          clear HGD hh hsh
          obtain ⟨W, hW⟩ : ∃ W : World, W = wr := ⟨_, rfl⟩
          rw [← hW] at HO HB
          go_wp2
          rw [← hW]
          clear hW
          go_loopw [10, 11] (fun wv iv wr => ∃ i : Nat, iv = .int .i64 (i : Int) ∧ i ≤ m ∧ wv = .int .u64 (Sk.word h j (ns.take i) 0 : Nat) ∧ Hid (Below W.heap.size W wr)) (fun _ iv _ => m - (intOf iv).toNat)
          case atStart => exact ⟨0, rfl, Nat.zero_le _, rfl, hid (Below.refl _ _)⟩
          case round =>
            obtain ⟨i, rfl, hi, rfl, HBW⟩ := hrel
            have HBB := hid (HB.out.trans (HBW.out.mono HB.out.size))
            by_cases hilt : i < m
            · have hii : (i : Int) < (m : Int) := by omega
              have hil : i < ns.length := by rw [HL.out.2]; exact hilt
              obtain ⟨b, o, rfl, hbb, hc⟩ := HX.out (by omega)
              obtain ⟨b2, o2, rfl, hbb2, hc2⟩ := HX2.out (by omega)
              obtain ⟨q0, q1⟩ := hcs_cell hc hrl
              have q2 := us_cell hc2 hil
              have hgd : ns.getD i 0 = ns[i] := by simp [List.getD, hil]
              rw [← HH.out.1] at q0 q1
              have c0 := (HBB.out.cell (p := ⟨b, o + r * 2, none⟩) hbb).trans q0
              have c1 := (HBB.out.cell (p := ⟨b, o + r * 2 + 1, none⟩) hbb).trans q1
              have d0 := (HBB.out.cell (p := ⟨b2, o2 + i, none⟩) hbb2).trans q2
              have hnn := Sk.small_getD HS.out.1 i
              have hsw := small_word h j (ns := ns.take i) (fun x hx => HS.out.1 x (List.mem_of_mem_take hx)) 0 (by omega)
              have hst := word_take h j ns hil
              rw [← hgd] at hst
              have HST2 := hid hst
              generalize ns.getD i 0 = nm at *
              generalize Sk.word h j (ns.take i) 0 = wd at *
              have hvl := small_val h nm
              have VH : Hid (∀ w, Calls Try.prog 21 #[.agg #[.int .u64 (h.1 : Int), .int .u64 (h.2 : Int)], .int .u64 (nm : Int)] w fun e w' => e = .returned (.int .u64 (Sk.val h nm : Nat)) ∧ Below w.heap.size w w') := hid (fun w => refValue_z h nm HH.out.2 rfl hnn rfl)
              have BH : Hid (∀ w, Calls Try.prog 22 #[.int .i64 (j : Int)] w fun e w' => e = .returned (.int .u64 (Sk.bnd j : Nat)) ∧ w = w') := hid (fun w => refBound_z (by omega) w)
              have hbl := bnd_lt j
              have HTG := hid (show Sk.tog1 h nm j wd = if Sk.val h nm < Sk.bnd j then wd ^^^ nm else wd from rfl)
              generalize Sk.val h nm = vv at *
              generalize Sk.bnd j = bb at *
              have hxn := bits_xor_u64_nat wd nm hsw hnn
              have e0 := World.new_ne wr _ c0
              clear q0 q1 q2 hc hc2 hst hgd e0
              by_cases hvb : vv < bb
              · have hvi : (vv : Int) < (bb : Int) := by omega
                have HV := hid hvb
                clear hvb
                go_wp2_with fail
                go_region_held3 (fun w' => w'.cell? ⟨b, o + r * 2, none⟩ = some (.int .u64 (h.1 : Int)) ∧ w'.cell? ⟨b, o + r * 2 + 1, none⟩ = some (.int .u64 (h.2 : Int)) ∧ w'.cell? ⟨b2, o2 + i, none⟩ = some (.int .u64 (nm : Int))) (first | go_keep | (go_split_ands; and_intros <;> (first | (refine cell_later (by assumption) ?_; first | assumption | (rw [Qt.cell (qt_of _ _)]; assumption) | (rw [Qt.cell (qt_drew _)]; assumption)) | (refine cell_later (bel_new _ _) ?_; assumption) | (rw [Qt.cell (by assumption)]; first | assumption | (rw [Qt.cell (qt_of _ _)]; assumption) | (rw [Qt.cell (qt_drew _)]; assumption))))) (first | (go_at_call 21; (with_reducible refine (VH.out _).mono ?_); rintro e w5 ⟨rfl, b5⟩) | (go_at_call 22; (with_reducible refine (BH.out _).mono ?_); rintro e w' ⟨rfl, rfl⟩))
                all_goals
                  have BX : Below wr.heap.size wr w5 := by first | exact Bl.call (qt_drew _).bel b5 | exact Bl.call (qt_of _ _).bel b5 | exact b5
                  have d1 := cell_later BX d0
                  have HBX := hid (HBW.out.trans (BX.mono HBW.out.size))
                  clear c0 c1 d0 BX b5
                  go_wp2
                  go_roundw
                  case rel => exact ⟨i + 1, by go_num, by omega, by rw [HST2.out, HTG.out, if_pos HV.out], HBX⟩
                  case measure => simp [intOf]; omega
              · have hvi : ¬ (vv : Int) < (bb : Int) := by omega
                have HV := hid hvb
                clear hvb
                go_wp2_with fail
                go_region_held3 (fun w' => w'.cell? ⟨b, o + r * 2, none⟩ = some (.int .u64 (h.1 : Int)) ∧ w'.cell? ⟨b, o + r * 2 + 1, none⟩ = some (.int .u64 (h.2 : Int)) ∧ w'.cell? ⟨b2, o2 + i, none⟩ = some (.int .u64 (nm : Int))) (first | go_keep | (go_split_ands; and_intros <;> (first | (refine cell_later (by assumption) ?_; first | assumption | (rw [Qt.cell (qt_of _ _)]; assumption) | (rw [Qt.cell (qt_drew _)]; assumption)) | (refine cell_later (bel_new _ _) ?_; assumption) | (rw [Qt.cell (by assumption)]; first | assumption | (rw [Qt.cell (qt_of _ _)]; assumption) | (rw [Qt.cell (qt_drew _)]; assumption))))) (first | (go_at_call 21; (with_reducible refine (VH.out _).mono ?_); rintro e w5 ⟨rfl, b5⟩) | (go_at_call 22; (with_reducible refine (BH.out _).mono ?_); rintro e w' ⟨rfl, rfl⟩))
                all_goals
                  have BX : Below wr.heap.size wr w5 := by first | exact Bl.call (qt_drew _).bel b5 | exact Bl.call (qt_of _ _).bel b5 | exact b5
                  have HBX := hid (HBW.out.trans (BX.mono HBW.out.size))
                  clear c0 c1 d0 BX b5
                  go_wp2
                  go_roundw
                  case rel => exact ⟨i + 1, by go_num, by omega, by rw [HST2.out, HTG.out, if_neg HV.out], HBX⟩
                  case measure => simp [intOf]; omega
            · obtain rfl : i = m := by omega
              have hii : ¬ (i : Int) < (i : Int) := by omega
              have HWD : Hid (Sk.word h j (ns.take i) 0 = Sk.word h j ns 0) := hid (by rw [List.take_of_length_le (by rw [HL.out.2]; exact Nat.le_refl _)])
              have HO2 := hid (own_below HO.out HBW.out)
              have hlen : ((Sk.refWords l V ns).take (r * V + j)).length ≤ 488 := by
                have h1 : ((Sk.refWords l V ns).take (r * V + j)).length ≤ R * V := by rw [← HRL.out]; rw [List.length_take]; omega
                have h2 : R * V ≤ 8 * 61 := Nat.mul_le_mul hR hV
                omega
              have HLN := hid hlen
              generalize Sk.word h j (ns.take i) 0 = wd at *
              clear hlen
              go_wp2_with (at_builtin; refine wl_app1 rfl _ _ Tus rfl (news := [.int .u64 (wd : Int)]) rfl HO2.out rfl rfl (us_one [wd]) (by have := HLN.out; omega) HBB.out.size ?_)
              intro v5 w5 hO5 hB5
              have HO5 := hid hO5
              have HB5 := hid (HBB.out.trans hB5)
              clear hO5 hB5
              go_wp2
              go_roundw
              case rel => exact ⟨j + 1, by go_num, by omega, hid (by have h5 := HO5.out; rw [HST.out, ← HWD.out, ← us_app, List.length_append, List.length_take]; exact h5), HB5⟩
              case measure => simp [intOf]; omega
        · obtain rfl : j = V := by omega
          have hji : ¬ (j : Int) < (j : Int) := by omega
          go_wp2
          go_roundw
          case rel => exact ⟨r + 1, by go_num, by omega, by rw [show (r + 1) * j + 0 = r * j + j by rw [Nat.add_mul]; omega]; exact HO, HB⟩
          case measure => simp [intOf]; omega
    · obtain rfl : r = R := by omega
      have hri : ¬ (r : Int) < (r : Int) := by omega
      go_wp2
      go_ret
      exact ⟨_, rfl, by rw [List.take_of_length_le (by rw [HRL.out]; omega)] at HO; exact Sl.of_own HO.out, HB.out⟩
end Go.Proofs.Ytomgbhnalhddiaa
