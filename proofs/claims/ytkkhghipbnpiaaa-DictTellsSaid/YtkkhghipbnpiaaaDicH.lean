/- Contracts of refs and of the document's Same. -/
import Derived.Test.YtkkhghipbnpiaaaDicF
namespace Go.Proofs.Ytkkhghipbnpiaaa
open Go.RowKit Sq
set_option linter.unusedVariables false
attribute [local go_sem ↓] Go.wp_at_zero Go.wp_at_succ

theorem Trefs : SlT 28 55 (.agg #[.int .u64 0, .int .i64 0]) 2 16 := SlT.mk Try.underlying28 (by kernel_rfl) rfl (by decide) (by decide)
def RefsPost (w : World) (n : Nat) (l : List (Int × Int)) (e : Ending) (w' : World) : Prop := ∃ v, e = .returned v ∧ Sl w' w'.heap.size 2 v n (prs l) ∧ Below w.heap.size w w'
theorem prs_snoc (l : List (Int × Int)) (m : Nat) (h : m < l.length) : prs (l.take m) ++ prs [l[m]] = prs (l.take (m + 1)) := by
  rw [prs_app, ← List.take_succ_eq_append_getElem h]
theorem src_lit (w : World) (x : Int × Int) : Sl ((w.alloc (.cells #[.int .u64 x.1, .int .i64 x.2] 51)).alloc (.cells #[.int .u64 x.1, .int .i64 x.2] 55)) ((w.alloc (.cells #[.int .u64 x.1, .int .i64 x.2] 51)).alloc (.cells #[.int .u64 x.1, .int .i64 x.2] 55)).heap.size 2 (.slice (some ⟨w.heap.size + 1, 0, none⟩) 1 1) 1 (prs [x]) := by
  have := (Blk.new (w.alloc (.cells #[.int .u64 x.1, .int .i64 x.2] 51)) 55 (prs [x])).sl (B := ((w.alloc (.cells #[.int .u64 x.1, .int .i64 x.2] 51)).alloc (.cells #[.int .u64 x.1, .int .i64 x.2] 55)).heap.size) (sz := 2) (n := 1) (c := 1) (by simp) (Nat.le_refl _) (by decide) (by rw [len_prs]; rfl)
  have e : (w.alloc (.cells #[.int .u64 x.1, .int .i64 x.2] 51)).heap.size = w.heap.size + 1 := by simp
  rw [e] at this
  exact this
set_option maxRecDepth 100000 in
set_option maxHeartbeats 4000000 in
theorem refs_any {v : Value} {n : Nat} {l : List (Int × Int)} {w : World} (hs : Sl w w.heap.size 2 v n (prs l)) (hn : n ≤ 100000) :
    Calls Try.prog 15 #[v] w (RefsPost w n l) := by
  have hl : l.length = n := by have := hs.len; rw [len_prs] at this; omega
  obtain ⟨A, c, rfl, hnc, hcm, hll, hx⟩ := hs
  have HX := hid hx
  have HL := hid hl
  clear hx hll hl
  go_enter Try.func15, Try.ntmps15
  go_wp2_with fail
  go_loopw [3, 5, 8] (fun o _ i wr => ∃ m : Nat, m ≤ n ∧ i = .int .i64 (m : Int) ∧ wr.ownsRow w.heap.size 55 2 o m (prs (l.take m)) ∧ Below w.heap.size w wr) (fun _ _ i _ => n - (intOf i).toNat)
  case atStart => exact ⟨0, Nat.zero_le _, rfl, World.ownsRow_nil _ _ _ _, Below.refl _ _⟩
  case round =>
    obtain ⟨m, hm, rfl, hown, hbel⟩ := hrel
    have hsz := hbel.size
    by_cases hlt : m < n
    · have e1 : (m : Int) < (n : Int) := by omega
      obtain ⟨b, o, rfl, hb, hc⟩ := HX.out (by omega)
      have hml : m < l.length := by rw [HL.out]; exact hlt
      have hq := prs_cell hc hml
      have HP := hid (prs_snoc l m hml)
      obtain ⟨x, hx⟩ : ∃ x, x = l[m] := ⟨_, rfl⟩
      rw [← hx] at hq HP
      have q0 := cell_later hbel hq.1
      have q1 := cell_later hbel hq.2
      clear hx hml hq hc
      have HSRC := hid (src_lit wr x)
      have hz2 : w.heap.size ≤ ((wr.alloc (.cells #[.int .u64 x.1, .int .i64 x.2] 51)).alloc (.cells #[.int .u64 x.1, .int .i64 x.2] 55)).heap.size := by simp; omega
      have hby : (m + 1) * 16 ≤ 140737488355328 := by omega
      go_wp2_with (at_builtin; refine wl_app rfl _ _ Trefs rfl rfl ((hown.alloc _).alloc _) rfl HSRC.out (prs_one _) hby hz2 ?_)
      intro v' w' hown' hbel'
      clear q0 q1
      go_wp2
      go_roundw
      case rel =>
        refine ⟨m + 1, by omega, by go_num, ?_, ((hbel.alloc hsz _).alloc (by simp; omega) _).trans hbel'⟩
        rw [← HP.out]
        exact hown'
      case measure => simp [intOf]; omega
    · have e1 : ¬ (m : Int) < (n : Int) := by omega
      obtain rfl : m = n := by omega
      have hL := hid (Sl.of_own hown)
      have hB := hid hbel
      clear hown hbel
      go_wp2
      go_ret
      exact ⟨_, rfl, by have := hL.out; rwa [List.take_of_length_le (by rw [HL.out]; exact Nat.le_refl _)] at this, hB.out⟩
set_option maxRecDepth 100000 in
set_option maxHeartbeats 4000000 in
theorem rsame_is (v v' : Value) (n n' B B' : Nat) (p q : List (Int × Int)) (w : World) (r : Bool) (hr : (p == q) = r) (hs : Sl w B 2 v n (prs p)) (hs' : Sl w B' 2 v' n' (prs q)) :
    Calls Try.prog 14 #[v, v'] w fun e w' => e = .returned (.bool r) ∧ Qt w w' := by
  have hn : p.length = n := by have := hs.len; rw [len_prs] at this; omega
  have hn' : q.length = n' := by have := hs'.len; rw [len_prs] at this; omega
  obtain ⟨A, c, rfl, hnc, hcm, hl, hx⟩ := hs
  obtain ⟨A', c', rfl, hnc', hcm', hl', hx'⟩ := hs'
  have HX := hid hx
  have HX' := hid hx'
  have HN := hid hn
  have HN' := hid hn'
  have HR := hid hr
  clear hx hx' hl hl' hn hn' hr
  have hm : n ≤ 9223372036854775807 := by unfold maxLen at hcm; omega
  have hm' : n' ≤ 9223372036854775807 := by unfold maxLen at hcm'; omega
  clear hcm hcm'
  by_cases hlen : n = n'
  · subst hlen
    have e0 : ((n : Int) != (n : Int)) = false := by simp
    go_enter Try.func14, Try.ntmps14
    go_wp2
    go_loopw [5] (fun i wr => ∃ k : Nat, k ≤ n ∧ i = .int .i64 (k : Int) ∧ Hid (p.take k = q.take k) ∧ Qt w wr) (fun i _ => n - (intOf i).toNat)
    case atStart => exact ⟨0, Nat.zero_le _, rfl, hid rfl, Qt.refl _⟩
    case round =>
      obtain ⟨k, hk, rfl, hall, hq⟩ := hrel
      by_cases hlt : k < n
      · obtain ⟨b, o, rfl, hb, hc⟩ := HX.out (by omega)
        obtain ⟨b', o', rfl, hb', hc'⟩ := HX'.out (by omega)
        have kp : k < p.length := by rw [HN.out]; exact hlt
        have kq : k < q.length := by rw [HN'.out]; exact hlt
        have c1 := prs_cell hc kp
        have c2 := prs_cell hc' kq
        have HT1 := hid (List.take_succ_eq_append_getElem kp)
        have HT2 := hid (List.take_succ_eq_append_getElem kq)
        have HG1 := hid (List.getElem?_eq_getElem kp)
        have HG2 := hid (List.getElem?_eq_getElem kq)
        obtain ⟨x, hgx⟩ : ∃ x, x = p[k] := ⟨_, rfl⟩
        obtain ⟨y, hgy⟩ : ∃ y, y = q[k] := ⟨_, rfl⟩
        rw [← hgx] at c1 HT1 HG1
        rw [← hgy] at c2 HT2 HG2
        obtain ⟨x1, x2⟩ := x
        obtain ⟨y1, y2⟩ := y
        have d1 := (hq.cell ⟨b, o + k * 2, none⟩).trans c1.1
        have d2 := (hq.cell ⟨b, o + k * 2 + 1, none⟩).trans c1.2
        have d3 := (hq.cell ⟨b', o' + k * 2, none⟩).trans c2.1
        have d4 := (hq.cell ⟨b', o' + k * 2 + 1, none⟩).trans c2.2
        dsimp only at d1 d2 d3 d4
        have i1 : (k : Int) < (n : Int) := by omega
        have i0 : (0 : Int) ≤ (k : Int) := by omega
        clear hc hc' hgx hgy c1 c2 kp kq
        by_cases he : x1 = y1 ∧ x2 = y2
        · obtain ⟨rfl, rfl⟩ := he
          go_wp2_with fail
          go_quiet (fail)
          go_wp2
          go_roundw
          case rel => exact ⟨k + 1, by omega, by go_num, hid (by rw [HT1.out, HT2.out, hall.out]), hq.drewN _⟩
          case measure => simp [intOf]; omega
        · have HD : Hid (r = false) := hid (by
            rw [← HR.out, beq_eq_false_iff_ne]
            intro hpq
            have h1 := HG1.out
            rw [hpq, HG2.out] at h1
            injection h1 with h1
            injection h1 with h1 h2
            exact he ⟨h1.symm, h2.symm⟩)
          by_cases h1 : x1 = y1
          · have h2 : ¬ x2 = y2 := fun h => he ⟨h1, h⟩
            have e1 : (x1 != y1) = false := by simp [h1]
            have e2 : (x2 != y2) = true := by simp [h2]
            have e3 : (x1 == y1) = true := by simp [h1]
            have e4 : (x2 == y2) = false := by simp [h2]
            clear he h1 h2
            go_wp2_with fail
            go_quiet (fail)
            go_wp2
            go_ret
            exact ⟨by rw [HD.out]; rfl, hq.drewN _⟩
          · have e3 : (x1 == y1) = false := by simp [h1]
            have e1 : (x1 != y1) = true := by simp [h1]
            clear he h1
            go_wp2_with fail
            go_quiet (fail)
            go_wp2
            go_ret
            exact ⟨by rw [HD.out]; rfl, hq.drewN _⟩
      · obtain rfl : k = n := by omega
        have HD : Hid (r = true) := hid (by
          rw [← HR.out, beq_iff_eq]
          have := hall.out
          rwa [List.take_of_length_le (by rw [HN.out]; exact Nat.le_refl _), List.take_of_length_le (by rw [HN'.out]; exact Nat.le_refl _)] at this)
        go_wp2
        go_ret
        exact ⟨by rw [HD.out]; rfl, hq⟩
  · have e0 : ((n : Int) != (n' : Int)) = true := by simp; omega
    have HD : Hid (r = false) := hid (by
      rw [← HR.out, beq_eq_false_iff_ne]
      intro h
      exact hlen (by rw [← HN.out, ← HN'.out, h]))
    clear hlen
    go_enter Try.func14, Try.ntmps14
    go_wp2
    go_ret
    exact ⟨by rw [HD.out]; rfl, Qt.refl _⟩
theorem rsame_at {v v' : Value} {p : List (Int × Int)} {w : World} (hs : Sl w w.heap.size 2 v p.length (prs p)) (hs' : Sl w w.heap.size 2 v' p.length (prs p)) :
    Calls Try.prog 14 #[v, v'] w fun e w' => e = .returned (.bool true) ∧ Qt w w' := rsame_is _ _ _ _ _ _ _ _ _ true (by simp) hs hs'
end Go.Proofs.Ytkkhghipbnpiaaa
