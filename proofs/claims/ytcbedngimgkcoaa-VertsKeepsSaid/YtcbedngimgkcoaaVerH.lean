/- Contracts of Refs, of the document's Same, Right, Find. -/
import Derived.Test.YtcbedngimgkcoaaVerG
namespace Go.Proofs.Ytcbedngimgkcoaa
open Go.RowKit
set_option linter.unusedVariables false
set_option linter.unusedSimpArgs false
attribute [local go_sem ↓] Go.wp_at_zero Go.wp_at_succ

theorem Trefs : SlT 25 57 (.agg #[.bool false, .int .u64 0]) 2 16 := SlT.mk Try.underlying25 (by kernel_rfl) rfl (by decide) (by decide)
def RefsPost (w : World) (n : Nat) (l : List (Bool × Int)) (e : Ending) (w' : World) : Prop := ∃ v, e = .returned v ∧ Sl w' w'.heap.size 2 v n (sls l) ∧ Below w.heap.size w w'
theorem sls_snoc (l : List (Bool × Int)) (m : Nat) (h : m < l.length) : sls (l.take m) ++ sls [l[m]] = sls (l.take (m + 1)) := by
  rw [sls_app, ← List.take_succ_eq_append_getElem h]
theorem src_lit (w : World) (x : Bool × Int) : Sl ((w.alloc (.cells #[.bool x.1, .int .u64 x.2] 55)).alloc (.cells #[.bool x.1, .int .u64 x.2] 57)) ((w.alloc (.cells #[.bool x.1, .int .u64 x.2] 55)).alloc (.cells #[.bool x.1, .int .u64 x.2] 57)).heap.size 2 (.slice (some ⟨w.heap.size + 1, 0, none⟩) 1 1) 1 (sls [x]) := by
  have := (Blk.new (w.alloc (.cells #[.bool x.1, .int .u64 x.2] 55)) 57 (sls [x])).sl (B := ((w.alloc (.cells #[.bool x.1, .int .u64 x.2] 55)).alloc (.cells #[.bool x.1, .int .u64 x.2] 57)).heap.size) (sz := 2) (n := 1) (c := 1) (by simp) (Nat.le_refl _) (by decide) (by rw [len_sls]; rfl)
  have e : (w.alloc (.cells #[.bool x.1, .int .u64 x.2] 55)).heap.size = w.heap.size + 1 := by simp
  rw [e] at this
  exact this
set_option maxRecDepth 100000 in
set_option maxHeartbeats 4000000 in
theorem refs_any {v : Value} {n : Nat} {l : List (Bool × Int)} {w : World} (hs : Sl w w.heap.size 2 v n (sls l)) (hn : n ≤ 100000) :
    Calls Try.prog 10 #[v] w (RefsPost w n l) := by
  have hl : l.length = n := by have := hs.len; rw [len_sls] at this; omega
  obtain ⟨A, c, rfl, hnc, hcm, hll, hx⟩ := hs
  have HX := hid hx
  have HL := hid hl
  clear hx hll hl
  go_enter Try.func10, Try.ntmps10
  go_wp2_with fail
  go_loopw [3, 5, 8] (fun o _ i wr => ∃ m : Nat, m ≤ n ∧ i = .int .i64 (m : Int) ∧ wr.ownsRow w.heap.size 57 2 o m (sls (l.take m)) ∧ Below w.heap.size w wr) (fun _ _ i _ => n - (intOf i).toNat)
  case atStart => exact ⟨0, Nat.zero_le _, rfl, World.ownsRow_nil _ _ _ _, Below.refl _ _⟩
  case round =>
    obtain ⟨m, hm, rfl, hown, hbel⟩ := hrel
    have hsz := hbel.size
    by_cases hlt : m < n
    · have e1 : (m : Int) < (n : Int) := by omega
      obtain ⟨b, o, rfl, hb, hc⟩ := HX.out (by omega)
      have hml : m < l.length := by rw [HL.out]; exact hlt
      have hq := sls_cell hc hml
      have HP := hid (sls_snoc l m hml)
      obtain ⟨x, hx⟩ : ∃ x, x = l[m] := ⟨_, rfl⟩
      rw [← hx] at hq HP
      have q0 := cell_later hbel hq.1
      have q1 := cell_later hbel hq.2
      clear hx hml hq hc
      have HSRC := hid (src_lit wr x)
      have hz2 : w.heap.size ≤ ((wr.alloc (.cells #[.bool x.1, .int .u64 x.2] 55)).alloc (.cells #[.bool x.1, .int .u64 x.2] 57)).heap.size := by simp; omega
      have hby : (m + 1) * 16 ≤ 140737488355328 := by omega
      go_wp2_with (at_builtin; refine wl_app rfl _ _ Trefs rfl rfl ((hown.alloc _).alloc _) rfl HSRC.out (sls_one _) hby hz2 ?_)
      intro v' w' hown' hbel'
      clear q0 q1
      go_wp2
      go_roundw
      case rel =>
        refine ⟨m + 1, by omega, by go_num, ?_, ((hbel.alloc hsz _).alloc (by simp; omega) _).trans hbel'⟩
        rw [← HP.out]
        exact hown'
      case measure => simp [intOf]; omega
    · have e1 : ¬ (m : Int) < (n : Int) := by omega
      obtain rfl : m = n := by omega
      have hL := hid (Sl.of_own hown)
      have hB := hid hbel
      clear hown hbel
      go_wp2
      go_ret
      exact ⟨_, rfl, by have := hL.out; rwa [List.take_of_length_le (by rw [HL.out]; exact Nat.le_refl _)] at this, hB.out⟩
set_option maxRecDepth 100000 in
set_option maxHeartbeats 4000000 in
theorem rsame_is (v v' : Value) (n n' B B' : Nat) (p q : List (Bool × Int)) (w : World) (r : Bool) (hr : (p == q) = r) (hs : Sl w B 2 v n (sls p)) (hs' : Sl w B' 2 v' n' (sls q)) :
    Calls Try.prog 19 #[v, v'] w fun e w' => e = .returned (.bool r) ∧ Qt w w' := by
  have hn : p.length = n := by have := hs.len; rw [len_sls] at this; omega
  have hn' : q.length = n' := by have := hs'.len; rw [len_sls] at this; omega
  obtain ⟨A, c, rfl, hnc, hcm, hl, hx⟩ := hs
  obtain ⟨A', c', rfl, hnc', hcm', hl', hx'⟩ := hs'
  have HX := hid hx
  have HX' := hid hx'
  have HN := hid hn
  have HN' := hid hn'
  have HR := hid hr
  clear hx hx' hl hl' hn hn' hr
  have hm : n ≤ 9223372036854775807 := by unfold maxLen at hcm; omega
  have hm' : n' ≤ 9223372036854775807 := by unfold maxLen at hcm'; omega
  clear hcm hcm'
  by_cases hlen : n = n'
  · subst hlen
    have e0 : ((n : Int) != (n : Int)) = false := by simp
    go_enter Try.func19, Try.ntmps19
    go_wp2
    go_loopw [5] (fun i wr => ∃ k : Nat, k ≤ n ∧ i = .int .i64 (k : Int) ∧ Hid (p.take k = q.take k) ∧ Qt w wr) (fun i _ => n - (intOf i).toNat)
    case atStart => exact ⟨0, Nat.zero_le _, rfl, hid rfl, Qt.refl _⟩
    case round =>
      obtain ⟨k, hk, rfl, hall, hq⟩ := hrel
      by_cases hlt : k < n
      · obtain ⟨b, o, rfl, hb, hc⟩ := HX.out (by omega)
        obtain ⟨b', o', rfl, hb', hc'⟩ := HX'.out (by omega)
        have kp : k < p.length := by rw [HN.out]; exact hlt
        have kq : k < q.length := by rw [HN'.out]; exact hlt
        have c1 := sls_cell hc kp
        have c2 := sls_cell hc' kq
        have HT1 := hid (List.take_succ_eq_append_getElem kp)
        have HT2 := hid (List.take_succ_eq_append_getElem kq)
        have HG1 := hid (List.getElem?_eq_getElem kp)
        have HG2 := hid (List.getElem?_eq_getElem kq)
        obtain ⟨x, hgx⟩ : ∃ x, x = p[k] := ⟨_, rfl⟩
        obtain ⟨y, hgy⟩ : ∃ y, y = q[k] := ⟨_, rfl⟩
        rw [← hgx] at c1 HT1 HG1
        rw [← hgy] at c2 HT2 HG2
        obtain ⟨x1, x2⟩ := x
        obtain ⟨y1, y2⟩ := y
        have d1 := (hq.cell ⟨b, o + k * 2, none⟩).trans c1.1
        have d2 := (hq.cell ⟨b, o + k * 2 + 1, none⟩).trans c1.2
        have d3 := (hq.cell ⟨b', o' + k * 2, none⟩).trans c2.1
        have d4 := (hq.cell ⟨b', o' + k * 2 + 1, none⟩).trans c2.2
        dsimp only at d1 d2 d3 d4
        have i1 : (k : Int) < (n : Int) := by omega
        have i0 : (0 : Int) ≤ (k : Int) := by omega
        clear hc hc' hgx hgy c1 c2 kp kq
        by_cases he : x1 = y1 ∧ x2 = y2
        · obtain ⟨rfl, rfl⟩ := he
          go_wp2_with fail
          go_quiet (fail)
          go_wp2
          go_roundw
          case rel => exact ⟨k + 1, by omega, by go_num, hid (by rw [HT1.out, HT2.out, hall.out]), hq.drewN _⟩
          case measure => simp [intOf]; omega
        · have HD : Hid (r = false) := hid (by
            rw [← HR.out, beq_eq_false_iff_ne]
            intro hpq
            have h1 := HG1.out
            rw [hpq, HG2.out] at h1
            injection h1 with h1
            injection h1 with h1 h2
            exact he ⟨h1.symm, h2.symm⟩)
          by_cases h1 : x1 = y1
          · have h2 : ¬ x2 = y2 := fun h => he ⟨h1, h⟩
            have e1 : (x1 != y1) = false := by simp [h1]
            have e2 : (x2 != y2) = true := by simp [h2]
            have e3 : (x1 == y1) = true := by simp [h1]
            have e4 : (x2 == y2) = false := by simp [h2]
            clear he h1 h2
            go_wp2_with fail
            go_quiet (fail)
            go_wp2
            go_ret
            exact ⟨by rw [HD.out]; rfl, hq.drewN _⟩
          · have e3 : (x1 == y1) = false := by simp [h1]
            have e1 : (x1 != y1) = true := by simp [h1]
            clear he h1
            go_wp2_with fail
            go_quiet (fail)
            go_wp2
            go_ret
            exact ⟨by rw [HD.out]; rfl, hq.drewN _⟩
      · obtain rfl : k = n := by omega
        have HD : Hid (r = true) := hid (by
          rw [← HR.out, beq_iff_eq]
          have := hall.out
          rwa [List.take_of_length_le (by rw [HN.out]; exact Nat.le_refl _), List.take_of_length_le (by rw [HN'.out]; exact Nat.le_refl _)] at this)
        go_wp2
        go_ret
        exact ⟨by rw [HD.out]; rfl, hq⟩
  · have e0 : ((n : Int) != (n' : Int)) = true := by simp; omega
    have HD : Hid (r = false) := hid (by
      rw [← HR.out, beq_eq_false_iff_ne]
      intro h
      exact hlen (by rw [← HN.out, ← HN'.out, h]))
    clear hlen
    go_enter Try.func19, Try.ntmps19
    go_wp2
    go_ret
    exact ⟨by rw [HD.out]; rfl, Qt.refl _⟩
set_option maxRecDepth 100000 in
set_option maxHeartbeats 4000000 in
theorem rfind_is {v : Value} {n : Nat} {l : List (Bool × Int)} {k : Int} {w : World} {B : Nat} (hs : Sl w B 2 v n (sls l)) (z : Int) (hz : (match Vt.fn l k with | none => -1 | some i => (i : Int)) = z) :
    Calls Try.prog 20 #[v, .int .u64 k] w fun e w' => e = .returned (.int .i64 z) ∧ w = w' := by
  have hl : l.length = n := by have := hs.len; rw [len_sls] at this; omega
  obtain ⟨A, c, rfl, hnc, hcm, hll, hx⟩ := hs
  have hm : n ≤ 9223372036854775807 := by unfold maxLen at hcm; omega
  have HX := hid hx
  have HL := hid hl
  have HZ := hid hz
  clear hx hll hl hz hcm
  go_enter Try.func20, Try.ntmps20
  go_wp2_with fail
  go_loop [5] (fun i => ∃ m : Nat, m ≤ n ∧ i = .int .i64 (m : Int) ∧ Hid (∀ j, (hj2 : j < l.length) → j < m → ¬ (l[j].1 = true ∧ l[j].2 = k))) (fun i => n - (intOf i).toNat)
  case atStart => exact ⟨0, Nat.zero_le _, rfl, hid (fun j _ hj => absurd hj (Nat.not_lt_zero _))⟩
  case round =>
    obtain ⟨m, hm2, rfl, hall⟩ := hrel
    by_cases hlt : m < n
    · have i0 : (m : Int) < (n : Int) := by omega
      have i1 : (0 : Int) ≤ (m : Int) := by omega
      have hml : m < l.length := by rw [HL.out]; exact hlt
      obtain ⟨b6, o6, rfl, hb6, hc6⟩ := HX.out (by omega)
      have hq := sls_cell hc6 hml
      have HH := hid (fun (h : l[m].1 = true ∧ l[m].2 = k) => Vt.fn_here hml (fun j hj => hall.out j (by omega) hj) h)
      have HN := hid (fun (h : ¬ (l[m].1 = true ∧ l[m].2 = k)) => (show ∀ j, (hj2 : j < l.length) → j < m + 1 → ¬ (l[j].1 = true ∧ l[j].2 = k) from fun j hj2 hj => by
        rcases Nat.lt_or_ge j m with h1 | h1
        · exact hall.out j hj2 h1
        · have : j = m := by omega
          subst this; exact h))
      obtain ⟨x, hx⟩ : ∃ x, x = l[m] := ⟨_, rfl⟩
      rw [← hx] at hq HH HN
      obtain ⟨q0, q1⟩ := hq
      obtain ⟨u, x2⟩ := x
      dsimp only at q0 q1
      clear hx hml hc6 hall
      cases u with
      | false =>
        have HG := hid (HN.out (by simp))
        go_wp2_with fail
        go_round
        case rel => exact ⟨m + 1, by omega, by go_num, HG⟩
        case measure => simp [intOf]; omega
      | true =>
        by_cases he : x2 = k
        · have r0 : (x2 == k) = true := by simp [he]
          have HG : Hid ((m : Int) = z) := hid (by rw [← HZ.out, HH.out ⟨rfl, he⟩])
          clear he
          go_wp2
          go_ret
          exact ⟨by rw [HG.out]; rfl, rfl⟩
        · have r0 : (x2 == k) = false := by simp [he]
          have HG := hid (HN.out (fun h => he h.2))
          clear he
          go_wp2_with fail
          go_round
          case rel => exact ⟨m + 1, by omega, by go_num, HG⟩
          case measure => simp [intOf]; omega
    · have i0 : ¬ (m : Int) < (n : Int) := by omega
      have HG : Hid ((-1 : Int) = z) := hid (by rw [← HZ.out, Vt.fn_none (fun j hj => hall.out j hj (by have := HL.out; omega))])
      go_wp2
      go_ret
      exact ⟨by rw [HG.out]; rfl, rfl⟩
end Go.Proofs.Ytcbedngimgkcoaa
