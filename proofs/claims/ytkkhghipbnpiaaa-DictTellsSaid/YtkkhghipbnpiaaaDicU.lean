/- Contracts of the document's Delete, Put. -/
import Derived.Test.YtkkhghipbnpiaaaDicT
namespace Go.Proofs.Ytkkhghipbnpiaaa
open Go.RowKit Sq
set_option linter.unusedVariables false
attribute [local go_sem ↓] Go.wp_at_zero Go.wp_at_succ

def RPost (w : World) (l : List (Int × Int)) (e : Ending) (w' : World) : Prop := ∃ v, e = .returned v ∧ Sl w' w'.heap.size 2 v l.length (prs l) ∧ Below w.heap.size w w'
set_option maxRecDepth 100000 in
set_option maxHeartbeats 4000000 in
theorem rdelete_any {v : Value} {n : Nat} {l : List (Int × Int)} {k : Int} {w : World} (hs : Sl w w.heap.size 2 v n (prs l)) (hn : n ≤ 100000) :
    Calls Try.prog 11 #[v, .int .u64 k] w (RPost w (Dc.del l k)) := by
  have hl : l.length = n := by have := hs.len; rw [len_prs] at this; omega
  obtain ⟨A, c, rfl, hnc, hcm, hll, hx⟩ := hs
  have HX := hid hx
  have HL := hid hl
  clear hx hll hl
  go_enter Try.func11, Try.ntmps11
  go_wp2_with fail
  go_loopw [5, 6] (fun o i wr => ∃ (m : Nat) (R : List (Int × Int)), m ≤ n ∧ i = .int .i64 (m : Int) ∧ Hid (Dc.del (l.take m) k = R) ∧ R.length ≤ m ∧ wr.ownsRow w.heap.size 55 2 o R.length (prs R) ∧ Below w.heap.size w wr) (fun _ i _ => n - (intOf i).toNat)
  case atStart => exact ⟨0, [], Nat.zero_le _, rfl, hid rfl, Nat.le_refl _, World.ownsRow_nil _ _ _ _, Below.refl _ _⟩
  case round =>
    obtain ⟨m, R, hm, rfl, hR, hRl, hown, hbel⟩ := hrel
    have hsz := hbel.size
    by_cases hlt : m < n
    · have i0 : (m : Int) < (n : Int) := by omega
      have i1 : (0 : Int) ≤ (m : Int) := by omega
      have hml : m < l.length := by rw [HL.out]; exact hlt
      obtain ⟨b6, o6, rfl, hb6, hc6⟩ := HX.out (by omega)
      have hq := prs_cell hc6 hml
      have HT := hid (take_snoc' l m hml)
      obtain ⟨x, hx⟩ : ∃ x, x = l[m] := ⟨_, rfl⟩
      rw [← hx] at hq HT
      have HD := hid (Dc.del_snoc (l.take m) x k)
      have q0 := cell_later hbel hq.1
      have q1 := cell_later hbel hq.2
      clear hx hml hc6 hq
      by_cases he : x.1 = k
      · have r0 : (x.1 != k) = false := by simp [he]
        have HG : Hid (Dc.del (l.take (m + 1)) k = R) := hid (by rw [HT.out, HD.out.1 he, hR.out])
        clear he
        go_wp2_with fail
        go_roundw
        case rel => exact ⟨m + 1, R, by omega, by go_num, HG, by omega, hown, hbel⟩
        case measure => simp [intOf]; omega
      · have r0 : (x.1 != k) = true := by simp [he]
        have HG : Hid (Dc.del (l.take (m + 1)) k = R ++ [x]) := hid (by rw [HT.out, HD.out.2 he, hR.out])
        have HSRC := hid (src_ref wr x)
        have hz2 : w.heap.size ≤ (wr.alloc (.cells #[.int .u64 x.1, .int .i64 x.2] 55)).heap.size := by simp; omega
        have hby : (R.length + 1) * 16 ≤ 140737488355328 := by omega
        clear he
        go_wp2_with (at_builtin; refine wl_app rfl _ _ Trefs rfl rfl (hown.alloc _) rfl HSRC.out (prs_one _) hby hz2 ?_)
        intro v' w' hown' hbel'
        clear q0 q1
        go_wp2
        go_roundw
        case rel => exact ⟨m + 1, R ++ [x], by omega, by go_num, HG, by simp; omega, own_snoc hown', (hbel.alloc hsz _).trans hbel'⟩
        case measure => simp [intOf]; omega
    · have i0 : ¬ (m : Int) < (n : Int) := by omega
      obtain rfl : m = n := by omega
      have HG : Hid (Dc.del l k = R) := hid (by have := hR.out; rwa [List.take_of_length_le (by rw [HL.out]; exact Nat.le_refl _)] at this)
      have hL := hid (Sl.of_own hown)
      have hB := hid hbel
      clear hown hbel
      go_wp2
      go_ret
      exact ⟨_, rfl, by rw [HG.out]; exact hL.out, hB.out⟩
set_option maxRecDepth 100000 in
set_option maxHeartbeats 8000000 in
theorem rput_any {v : Value} {n : Nat} {l : List (Int × Int)} {k x0 : Int} {w : World} (hs : Sl w w.heap.size 2 v n (prs l)) (hn : n ≤ 100000) (hsrt : Dc.Srt l) :
    Calls Try.prog 13 #[v, .int .u64 k, .int .i64 x0] w (RPost w (Dc.put l k x0)) := by
  have hl : l.length = n := by have := hs.len; rw [len_prs] at this; omega
  obtain ⟨A, c, rfl, hnc, hcm, hll, hx⟩ := hs
  have HX := hid hx
  have HL := hid hl
  have HSR := hid hsrt
  clear hx hll hl hsrt
  go_enter Try.func13, Try.ntmps13
  go_wp2_with fail
  go_loopw [7, 8, 9] (fun o d i wr => ∃ (m : Nat) (R : List (Int × Int)) (dn : Bool), m ≤ n ∧ i = .int .i64 (m : Int) ∧ d = .bool dn ∧ Hid (Dc.rdone (l.take m) k = dn) ∧ Hid (Dc.rout (l.take m) k x0 = R) ∧ R.length ≤ m + (if dn then 1 else 0) ∧ wr.ownsRow w.heap.size 55 2 o R.length (prs R) ∧ Below w.heap.size w wr) (fun _ _ i _ => n - (intOf i).toNat)
  case atStart => exact ⟨0, [], false, Nat.zero_le _, rfl, rfl, hid rfl, hid rfl, Nat.zero_le _, World.ownsRow_nil _ _ _ _, Below.refl _ _⟩
  case round =>
    obtain ⟨m, R, dn, hm, rfl, rfl, hD, hR, hRl, hown, hbel⟩ := hrel
    have hsz := hbel.size
    have hRl1 : R.length ≤ m + 1 := by revert hRl; split <;> omega
    by_cases hlt : m < n
    · have i0 : (m : Int) < (n : Int) := by omega
      have i1 : (0 : Int) ≤ (m : Int) := by omega
      have hml : m < l.length := by rw [HL.out]; exact hlt
      obtain ⟨b6, o6, rfl, hb6, hc6⟩ := HX.out (by omega)
      have hq := prs_cell hc6 hml
      have HT := hid (take_snoc' l m hml)
      obtain ⟨x, hx⟩ : ∃ x, x = l[m] := ⟨_, rfl⟩
      rw [← hx] at hq HT
      have q0 := cell_later hbel hq.1
      have q1 := cell_later hbel hq.2
      have HQ := hid hq
      clear hx hml hc6 hq
      have HSRC := hid (src_ref wr x)
      have hz2 : w.heap.size ≤ (wr.alloc (.cells #[.int .u64 x.1, .int .i64 x.2] 55)).heap.size := by simp; omega
      have hby : (R.length + 1) * 16 ≤ 140737488355328 := by omega
      have hby2 : ((R ++ [(k, x0)]).length + 1) * 16 ≤ 140737488355328 := by simp; omega
      cases dn with
      | true =>
        obtain ⟨e1, e2, e3⟩ := Dc.rput_done x0 hD.out (x := x) (by rw [← HT.out]; exact List.Pairwise.sublist (List.take_sublist _ _) HSR.out)
        have r0 : (x.1 != k) = true := by rw [bne_iff_ne]; omega
        have E1 : Hid (Dc.rdone (l.take (m + 1)) k = true) := hid (by rw [HT.out, e1])
        have E3 : Hid (Dc.rout (l.take (m + 1)) k x0 = R ++ [x]) := hid (by rw [HT.out, e3, hR.out])
        have hRl2 : (R ++ [x]).length ≤ m + 1 + (if true = true then 1 else 0) := by simp; omega
        clear e1 e2 e3
        go_wp2_with (at_builtin; refine wl_app rfl _ _ Trefs rfl rfl (hown.alloc _) rfl HSRC.out (prs_one _) hby hz2 ?_)
        intro v' w' hown' hbel'
        clear q0 q1
        go_wp2
        go_roundw
        case rel => exact ⟨m + 1, R ++ [x], true, by omega, by go_num, rfl, E1, E3, hRl2, own_snoc hown', (hbel.alloc hsz _).trans hbel'⟩
        case measure => simp [intOf]; omega
      | false =>
        by_cases hk : k ≤ x.1
        · have r1 : decide (k ≤ x.1) = true := decide_eq_true hk
          have HSRK : Hid (Sl (wr.alloc (.cells #[.int .u64 k, .int .i64 x0] 55)) (wr.alloc (.cells #[.int .u64 k, .int .i64 x0] 55)).heap.size 2 (.slice (some ⟨wr.heap.size, 0, none⟩) 1 1) 1 (prs [(k, x0)])) := hid (src_ref wr (k, x0))
          have hz3 : w.heap.size ≤ (wr.alloc (.cells #[.int .u64 k, .int .i64 x0] 55)).heap.size := by simp; omega
          obtain ⟨e1, e2, e3⟩ := Dc.rput_new x0 hD.out (x := x) hk
          have E1 : Hid (Dc.rdone (l.take (m + 1)) k = true) := hid (by rw [HT.out, e1])
          by_cases he : x.1 = k
          · have r0 : (x.1 != k) = false := by simp [he]
            have E3 : Hid (Dc.rout (l.take (m + 1)) k x0 = R ++ [(k, x0)]) := hid (by rw [HT.out, e2 he, hR.out])
            have hRl2 : (R ++ [(k, x0)]).length ≤ m + 1 + (if true = true then 1 else 0) := by simp; omega
            clear he e1 e2 e3
            go_wp2_with (at_builtin; refine wl_app rfl _ _ Trefs rfl rfl (hown.alloc _) rfl HSRK.out (prs_one _) hby hz3 ?_)
            intro v' w' hown' hbel'
            have hb2 := (hbel.alloc hsz _).trans hbel'
            have q0' := cell_later hb2 HQ.out.1
            have q1' := cell_later hb2 HQ.out.2
            clear q0 q1
            go_wp2_with fail
            go_roundw
            case rel => exact ⟨m + 1, R ++ [(k, x0)], true, by omega, by go_num, rfl, E1, E3, hRl2, own_snoc hown', hb2⟩
            case measure => simp [intOf]; omega
          · have r0 : (x.1 != k) = true := by simp [he]
            have E3 : Hid (Dc.rout (l.take (m + 1)) k x0 = R ++ [(k, x0)] ++ [x]) := hid (by rw [HT.out, e3 he, hR.out])
            have hRl2 : (R ++ [(k, x0)] ++ [x]).length ≤ m + 1 + (if true = true then 1 else 0) := by simp at hRl ⊢; omega
            clear he e1 e2 e3
            go_wp2_with (at_builtin; refine wl_app rfl _ _ Trefs rfl rfl (hown.alloc _) rfl HSRK.out (prs_one _) hby hz3 ?_)
            intro v' w' hown' hbel'
            have hb2 := (hbel.alloc hsz _).trans hbel'
            have q0' := cell_later hb2 HQ.out.1
            have q1' := cell_later hb2 HQ.out.2
            have hown2 := own_snoc hown'
            have HSR2 := hid (src_ref w' x)
            have hsz2 := hb2.size
            have hz4 : w.heap.size ≤ (w'.alloc (.cells #[.int .u64 x.1, .int .i64 x.2] 55)).heap.size := by simp; omega
            clear q0 q1 hown' hbel' hown
            go_wp2_with (at_builtin; refine wl_app rfl _ _ Trefs rfl rfl (hown2.alloc _) rfl HSR2.out (prs_one _) hby2 hz4 ?_)
            intro v9 w9 hown9 hbel9
            clear q0' q1'
            go_wp2
            go_roundw
            case rel => exact ⟨m + 1, R ++ [(k, x0)] ++ [x], true, by omega, by go_num, rfl, E1, E3, hRl2, own_snoc (by rw [List.length_append]; exact hown9), (hb2.alloc hsz2 _).trans hbel9⟩
            case measure => simp [intOf]; omega
        · obtain ⟨e1, e3⟩ := Dc.rput_less x0 hD.out (x := x) (by omega)
          have r0 : (x.1 != k) = true := by rw [bne_iff_ne]; omega
          have E1 : Hid (Dc.rdone (l.take (m + 1)) k = false) := hid (by rw [HT.out, e1])
          have E3 : Hid (Dc.rout (l.take (m + 1)) k x0 = R ++ [x]) := hid (by rw [HT.out, e3, hR.out])
          have hRl2 : (R ++ [x]).length ≤ m + 1 + (if false = true then 1 else 0) := by simp at hRl ⊢; omega
          have r1 : decide (k ≤ x.1) = false := decide_eq_false hk
          clear e1 e3
          go_wp2_with (at_builtin; refine wl_app rfl _ _ Trefs rfl rfl (hown.alloc _) rfl HSRC.out (prs_one _) hby hz2 ?_)
          intro v' w' hown' hbel'
          clear q0 q1
          go_wp2
          go_roundw
          case rel => exact ⟨m + 1, R ++ [x], false, by omega, by go_num, rfl, E1, E3, hRl2, own_snoc hown', (hbel.alloc hsz _).trans hbel'⟩
          case measure => simp [intOf]; omega
    · have i0 : ¬ (m : Int) < (n : Int) := by omega
      obtain rfl : m = n := by omega
      have hT : l.take m = l := List.take_of_length_le (by rw [HL.out]; exact Nat.le_refl _)
      have hD2 := hD.out
      have hR2 := hR.out
      rw [hT] at hD2 hR2
      obtain ⟨e1, e2⟩ := Dc.rput_end l k x0
      cases dn with
      | true =>
        have HG : Hid (Dc.put l k x0 = R) := hid (by rw [← e1 hD2, hR2])
        have hL := hid (Sl.of_own hown)
        have hB := hid hbel
        clear hown hbel hD2 hR2 e1 e2 hT
        go_wp2
        go_ret
        exact ⟨_, rfl, by rw [HG.out]; exact hL.out, hB.out⟩
      | false =>
        have HG : Hid (Dc.put l k x0 = R ++ [(k, x0)]) := hid (by rw [← e2 hD2, hR2])
        have HSRK : Hid (Sl (wr.alloc (.cells #[.int .u64 k, .int .i64 x0] 55)) (wr.alloc (.cells #[.int .u64 k, .int .i64 x0] 55)).heap.size 2 (.slice (some ⟨wr.heap.size, 0, none⟩) 1 1) 1 (prs [(k, x0)])) := hid (src_ref wr (k, x0))
        have hz3 : w.heap.size ≤ (wr.alloc (.cells #[.int .u64 k, .int .i64 x0] 55)).heap.size := by simp; omega
        have hby : (R.length + 1) * 16 ≤ 140737488355328 := by omega
        clear hD2 hR2 e1 e2 hT
        go_wp2_with (at_builtin; refine wl_app rfl _ _ Trefs rfl rfl (hown.alloc _) rfl HSRK.out (prs_one _) hby hz3 ?_)
        intro v' w' hown' hbel'
        have hL := hid (Sl.of_own (own_snoc hown'))
        have hB := hid ((hbel.alloc hsz _).trans hbel')
        clear hown hbel hown' hbel'
        go_wp2
        go_ret
        exact ⟨_, rfl, by rw [HG.out]; exact hL.out, hB.out⟩
end Go.Proofs.Ytkkhghipbnpiaaa
