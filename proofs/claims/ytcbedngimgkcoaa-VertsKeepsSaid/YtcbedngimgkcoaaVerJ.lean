/- Contracts of the document's set, Add, Remove. -/
import Derived.Test.YtcbedngimgkcoaaVerI
namespace Go.Proofs.Ytcbedngimgkcoaa
open Go.RowKit
set_option linter.unusedVariables false
set_option linter.unusedSimpArgs false
attribute [local go_sem ↓] Go.wp_at_zero Go.wp_at_succ

theorem own_slot' {w : World} {T : TypeId} {base g n c : Nat} {l : List (Bool × Int)} (h : w.ownsRow base T 2 (.slice (some ⟨g, 0, none⟩) n c) n (sls l)) (j : Nat) (u : Bool) (k : Int) :
    ((w.setCell ⟨g, j * 2, none⟩ (.bool u)).setCell ⟨g, j * 2 + 1, none⟩ (.int .u64 k)).ownsRow base T 2 (.slice (some ⟨g, 0, none⟩) n c) n (sls (l.set j (u, k))) := by
  have := ((h.stored (j * 2) (.bool u)).1.stored (j * 2 + 1) (.int .u64 k)).1
  rwa [sls_set] at this
theorem own_cells' {w : World} {T : TypeId} {base g n c : Nat} {l : List (Bool × Int)} (h : w.ownsRow base T 2 (.slice (some ⟨g, 0, none⟩) n c) n (sls l)) {j : Nat} (hj : j < l.length) :
    w.cell? ⟨g, j * 2, none⟩ = some (.bool l[j].1) ∧ w.cell? ⟨g, j * 2 + 1, none⟩ = some (.int .u64 l[j].2) ∧ w.frozen? ⟨g, j * 2, none⟩ = false ∧ w.frozen? ⟨g, j * 2 + 1, none⟩ = false := by
  have hn : l.length = n := by have := h.1; rw [len_sls] at this; omega
  have e := sls_at l j hj
  exact ⟨by rw [h.cellAt (j * 2) (by omega)]; exact e.1, by rw [h.cellAt (j * 2 + 1) (by omega)]; exact e.2, h.frozenAt _, h.frozenAt _⟩
def SetPost (w : World) (n : Nat) (l : List (Bool × Int)) (e : Ending) (w' : World) : Prop := ∃ v, e = .returned v ∧ Sl w' w'.heap.size 2 v n (sls l) ∧ Below w.heap.size w w'
set_option maxRecDepth 100000 in
theorem rset_any {v : Value} {n : Nat} {l : List (Bool × Int)} {j : Nat} {u : Bool} {k : Int} {w : World} (hs : Sl w w.heap.size 2 v n (sls l)) (hj : j < l.length) (hn : n ≤ 1024) :
    Calls Try.prog 29 #[v, .int .i64 (j : Int), .agg #[.bool u, .int .u64 k]] w (SetPost w n (l.set j (u, k))) := by
  have hl : l.length = n := by have := hs.len; rw [len_sls] at this; omega
  have HS := hid (hs.new (.cells #[.bool u, .int .u64 k] 57))
  have HJ := hid hj
  have hjn : (j : Int) < (n : Int) := by omega
  have hjn' : j < n := by omega
  have HB0 := hid (bel_new w (.cells #[.bool u, .int .u64 k] 57))
  have D0 := hid (Blk.new w 57 [.bool u, .int .u64 k])
  have hsz : w.heap.size ≤ (w.alloc (.cells #[.bool u, .int .u64 k] 57)).heap.size := by simp
  clear hs hj hl
  go_enter Try.func29, Try.ntmps29
  go_wp2_with (at_builtin; refine wl_app (base := (w.alloc (.cells #[.bool u, .int .u64 k] 57)).heap.size) rfl _ _ Trefs rfl rfl (World.ownsRow_nil _ _ _ _) rfl HS.out (sls_one _) (by omega) (Nat.le_refl _) ?_)
  intro v4 w4 o4 b4
  obtain ⟨g, cap, rfl, hg1, hg2⟩ := own_form o4 (by omega)
  obtain ⟨c0, c1, f0, f1⟩ := own_cells' o4 HJ.out
  have O5 := hid (own_slot' o4 j u k)
  have D4 := hid (D0.out.below b4 (Nat.lt_succ_self _))
  have d0 := D4.out.cell 0
  have d1 := D4.out.cell 1
  have B4 := hid (HB0.out.trans (b4.mono (Nat.le_succ _)))
  have hg3 : w.heap.size ≤ g := by omega
  have B5 : Hid (Below w.heap.size w ((w4.setCell ⟨g, j * 2, none⟩ (.bool u)).setCell ⟨g, j * 2 + 1, none⟩ (.int .u64 k))) := hid ((B4.out.setCell (p := ⟨g, j * 2, none⟩) hg3 _).setCell (p := ⟨g, j * 2 + 1, none⟩) hg3 _)
  clear o4 b4 hg1 hg2 hg3 hsz
  go_wp2
  go_ret
  exact ⟨_, rfl, Sl.of_own O5.out, B5.out⟩
def RAddPost (w : World) (n : Nat) (l : List (Bool × Int)) (z1 z2 : Int) (e : Ending) (w' : World) : Prop := ∃ v, e = .returned (.tuple #[v, .int .i64 z1, .int .i64 z2]) ∧ Sl w' w'.heap.size 2 v n (sls l) ∧ Below w.heap.size w w'
def RRemPost (w : World) (n : Nat) (l : List (Bool × Int)) (z2 : Int) (e : Ending) (w' : World) : Prop := ∃ v, e = .returned (.tuple #[v, .int .i64 z2]) ∧ Sl w' w'.heap.size 2 v n (sls l) ∧ Below w.heap.size w w'
theorem rrem_any {v : Value} {n : Nat} {l : List (Bool × Int)} {k : Int} {w : World} (hs : Sl w w.heap.size 2 v n (sls l)) :
    ∃ m z2, Vt.rem l k = (m, z2) ∧ Calls Try.prog 15 #[v, .int .u64 k] w (RRemPost w n m (z2 : Int)) := by
  have hl : l.length = n := by have := hs.len; rw [len_sls] at this; omega
  have HS := hid hs
  rcases Vt.rem_cases l k with ⟨c1, e⟩ | ⟨c1, c2, e⟩ | ⟨c1, j, c2, e⟩
  · refine ⟨_, _, e, ?_⟩
    have HR := hid (fun (w : World) (hw : Sl w w.heap.size 2 v n (sls l)) => rright_is hw false (by simp [c1]))
    clear c1 e hl hs
    go_enter Try.func15, Try.ntmps15
    go_wp2_with fail
    refine (HR.out _ HS.out).mono ?_; rintro e w1 ⟨rfl, q1⟩
    have Q := hid q1
    clear q1
    go_wp2
    go_ret2
    exact ⟨_, rfl, HS.out.cqt Q.out, Q.out.bel⟩
  · refine ⟨_, _, e, ?_⟩
    have HR := hid (fun (w : World) (hw : Sl w w.heap.size 2 v n (sls l)) => rright_is hw true (by simp [c1]))
    have HF := hid (fun (w : World) (hw : Sl w w.heap.size 2 v n (sls l)) => rfind_is (k := k) hw (-1) (by rw [c2]))
    clear c1 c2 e hl hs
    go_enter Try.func15, Try.ntmps15
    go_wp2_with fail
    refine (HR.out _ HS.out).mono ?_; rintro e w1 ⟨rfl, q1⟩
    have Q := hid q1
    have HS1 := hid (HS.out.cqt q1)
    clear q1
    go_wp2_with fail
    refine (HF.out _ HS1.out).mono ?_; rintro e w2 ⟨rfl, rfl⟩
    go_wp2
    go_ret2
    exact ⟨_, rfl, HS1.out, Q.out.bel⟩
  · refine ⟨_, _, e, ?_⟩
    have hjl : j < l.length := (List.getElem?_eq_some_iff.1 (Vt.fn_some c2)).1
    have hj0 : ¬ (j : Int) < 0 := by omega
    have HR := hid (fun (w : World) (hw : Sl w w.heap.size 2 v n (sls l)) => rright_is hw true (by simp [c1]))
    have HF := hid (fun (w : World) (hw : Sl w w.heap.size 2 v n (sls l)) => rfind_is (k := k) hw (j : Int) (by rw [c2]))
    have hn2 : n ≤ 1024 := by have := c1.2.1; omega
    have HSET := hid (fun w h => rset_any (w := w) (v := v) (n := n) (l := l) (j := j) (u := false) (k := 0) h hjl hn2)
    clear c1 c2 e hl hs hjl hn2
    go_enter Try.func15, Try.ntmps15
    go_wp2_with fail
    refine (HR.out _ HS.out).mono ?_; rintro e w1 ⟨rfl, q1⟩
    have Q := hid q1
    have HS1 := hid (HS.out.cqt q1)
    clear q1
    go_wp2_with fail
    refine (HF.out _ HS1.out).mono ?_; rintro e w2 ⟨rfl, rfl⟩
    go_wp2_with fail
    refine (HSET.out _ HS1.out).mono ?_; rintro e w3 ⟨v3, rfl, s3, b3⟩
    have S3 := hid s3
    have B3 := hid (Bl.call Q.out.bel b3)
    clear s3 b3
    go_wp2
    go_ret2
    exact ⟨_, rfl, S3.out, B3.out⟩
theorem rrem_is {v : Value} {n : Nat} {l : List (Bool × Int)} {k : Int} {w : World} (hs : Sl w w.heap.size 2 v n (sls l)) (m : List (Bool × Int)) (z2 : Int) (h : Vt.rem l k = (m, z2.toNat)) (h2 : 0 ≤ z2) :
    Calls Try.prog 15 #[v, .int .u64 k] w (RRemPost w n m z2) := by
  obtain ⟨m', z', e, c⟩ := rrem_any (k := k) hs
  obtain ⟨b, rfl⟩ := Int.eq_ofNat_of_zero_le h2
  rw [h] at e
  cases e
  exact c
set_option maxRecDepth 100000 in
set_option maxHeartbeats 4000000 in
theorem radd_any {v : Value} {n : Nat} {l : List (Bool × Int)} {k : Int} {w : World} (hs : Sl w w.heap.size 2 v n (sls l)) :
    ∃ m z1 z2, Vt.add l k = (m, z1, z2) ∧ Calls Try.prog 13 #[v, .int .u64 k] w (RAddPost w n m (z1 : Int) (z2 : Int)) := by
  have hl : l.length = n := by have := hs.len; rw [len_sls] at this; omega
  have HS := hid hs
  rcases Vt.add_cases l k with ⟨c1, e⟩ | ⟨c1, ⟨j, c2⟩, e⟩ | ⟨c1, c2, c3, e⟩ | ⟨c1, c2, j, c3, e⟩
  · refine ⟨_, _, _, e, ?_⟩
    have HR := hid (fun (w : World) (hw : Sl w w.heap.size 2 v n (sls l)) => rright_is hw false (by simp [c1]))
    clear c1 e hl hs
    go_enter Try.func13, Try.ntmps13
    go_wp2_with fail
    refine (HR.out _ HS.out).mono ?_; rintro e w1 ⟨rfl, q1⟩
    have Q := hid q1
    clear q1
    go_wp2
    exact bodyPost_ret (v := .tuple #[v, .int .i64 0, .int .i64 1]) (by simp [results, Try.results13, go_sem]) rfl ⟨_, rfl, HS.out.cqt Q.out, Q.out.bel⟩
  · refine ⟨_, _, _, e, ?_⟩
    have hj0 : (0 : Int) ≤ (j : Int) := by omega
    have HR := hid (fun (w : World) (hw : Sl w w.heap.size 2 v n (sls l)) => rright_is hw true (by simp [c1]))
    have HF := hid (fun (w : World) (hw : Sl w w.heap.size 2 v n (sls l)) => rfind_is (k := k) hw (j : Int) (by rw [c2]))
    clear c1 c2 e hl hs
    go_enter Try.func13, Try.ntmps13
    go_wp2_with fail
    refine (HR.out _ HS.out).mono ?_; rintro e w1 ⟨rfl, q1⟩
    have Q := hid q1
    have HS1 := hid (HS.out.cqt q1)
    clear q1
    go_wp2_with fail
    refine (HF.out _ HS1.out).mono ?_; rintro e w2 ⟨rfl, rfl⟩
    go_wp2
    exact bodyPost_ret (v := .tuple #[v, .int .i64 0, .int .i64 4]) (by simp [results, Try.results13, go_sem]) rfl ⟨_, rfl, HS1.out, Q.out.bel⟩
  · refine ⟨_, _, _, e, ?_⟩
    have HR := hid (fun (w : World) (hw : Sl w w.heap.size 2 v n (sls l)) => rright_is hw true (by simp [c1]))
    have HF := hid (fun (w : World) (hw : Sl w w.heap.size 2 v n (sls l)) => rfind_is (k := k) hw (-1) (by rw [c2]))
    have hn2 : n ≤ 1024 := by have := c1.2.1; omega
    have HSET : Hid (∀ (w : World) (j : Nat), Sl w w.heap.size 2 v n (sls l) → j < l.length → Calls Try.prog 29 #[v, .int .i64 (j : Int), .agg #[.bool true, .int .u64 k]] w (SetPost w n (l.set j (true, k)))) := hid (fun w j h hj => rset_any h hj hn2)
    have HFF := hid c3
    have HL := hid hl
    clear c1 c2 c3 e hl
    obtain ⟨A, c, rfl, hnc, hcm, hll, hx⟩ := hs
    have HX := hid hx
    clear hx hll hcm hnc
    go_enter Try.func13, Try.ntmps13
    go_wp2_with fail
    refine (HR.out _ HS.out).mono ?_; rintro e w1 ⟨rfl, q1⟩
    have Q := hid q1
    have HS1 := hid (HS.out.cqt q1)
    clear q1
    go_wp2_with fail
    refine (HF.out _ HS1.out).mono ?_; rintro e w2 ⟨rfl, rfl⟩
    go_wp2_with fail
    go_loop [8] (fun iv => ∃ m : Nat, m ≤ n ∧ iv = .int .i64 (m : Int) ∧ Hid (∀ i, (h : i < l.length) → i < m → l[i].1 = true)) (fun i => n - (intOf i).toNat)
    case atStart => exact ⟨0, Nat.zero_le _, rfl, hid (fun j _ hj => absurd hj (Nat.not_lt_zero _))⟩
    case round =>
      obtain ⟨m, hm2, rfl, hall⟩ := hrel
      by_cases hlt : m < n
      · have i0 : (m : Int) < (n : Int) := by omega
        have i1 : (0 : Int) ≤ (m : Int) := by omega
        have hml : m < l.length := by rw [HL.out]; exact hlt
        obtain ⟨b6, o6, rfl, hb6, hc6⟩ := HX.out (by omega)
        have hq0 := (Q.out.cell ⟨b6, o6 + m * 2, none⟩).trans (sls_cell hc6 hml).1
        have HN0 := (fun (h : l[m].1 = true) => (show ∀ i, (h : i < l.length) → i < m + 1 → l[i].1 = true from fun i h1 h2 => by
          rcases Nat.lt_or_ge i m with h3 | h3
          · exact hall.out i h1 h3
          · have : i = m := by omega
            subst this; exact h))
        have HH0 := (fun (h : l[m].1 = false) => Vt.ff_here hml (fun i hi => hall.out i (by omega) hi) h)
        have HML := hid hml
        obtain ⟨u, hu⟩ : ∃ u, u = l[m].1 := ⟨_, rfl⟩
        have hq : w1.cell? ⟨b6, o6 + m * 2, none⟩ = some (.bool u) := by rw [hu]; exact hq0
        have HN : Hid (u = true → ∀ i, (h : i < l.length) → i < m + 1 → l[i].1 = true) := hid (by rw [hu]; exact HN0)
        have HH : Hid (u = false → Vt.ff l = some m) := hid (by rw [hu]; exact HH0)
        clear hu hc6 hml hall hq0 HN0 HH0
        cases u with
        | true =>
          have HN2 := hid (HN.out rfl)
          go_wp2_with fail
          go_round
          case rel => exact ⟨m + 1, by omega, by go_num, HN2⟩
          case measure => simp [intOf]; omega
        | false =>
          have HH2 := hid (HH.out rfl)
          exfalso
          have h1 := HFF.out
          have h2 := HH2.out
          rw [h1] at h2
          cases h2
      · have i0 : ¬ (m : Int) < (n : Int) := by omega
        go_wp2
        exact bodyPost_ret (v := .tuple #[.slice A n c, .int .i64 0, .int .i64 10]) (by simp [results, Try.results13, go_sem]) rfl ⟨_, rfl, HS1.out, Q.out.bel⟩
  · refine ⟨_, _, _, e, ?_⟩
    have HR := hid (fun (w : World) (hw : Sl w w.heap.size 2 v n (sls l)) => rright_is hw true (by simp [c1]))
    have HF := hid (fun (w : World) (hw : Sl w w.heap.size 2 v n (sls l)) => rfind_is (k := k) hw (-1) (by rw [c2]))
    have hn2 : n ≤ 1024 := by have := c1.2.1; omega
    have HSET : Hid (∀ (w : World) (j : Nat), Sl w w.heap.size 2 v n (sls l) → j < l.length → Calls Try.prog 29 #[v, .int .i64 (j : Int), .agg #[.bool true, .int .u64 k]] w (SetPost w n (l.set j (true, k)))) := hid (fun w j h hj => rset_any h hj hn2)
    have HFF := hid c3
    have HL := hid hl
    clear c1 c2 c3 e hl
    obtain ⟨A, c, rfl, hnc, hcm, hll, hx⟩ := hs
    have HX := hid hx
    clear hx hll hcm hnc
    go_enter Try.func13, Try.ntmps13
    go_wp2_with fail
    refine (HR.out _ HS.out).mono ?_; rintro e w1 ⟨rfl, q1⟩
    have Q := hid q1
    have HS1 := hid (HS.out.cqt q1)
    clear q1
    go_wp2_with fail
    refine (HF.out _ HS1.out).mono ?_; rintro e w2 ⟨rfl, rfl⟩
    go_wp2_with fail
    go_loop [8] (fun iv => ∃ m : Nat, m ≤ n ∧ iv = .int .i64 (m : Int) ∧ Hid (∀ i, (h : i < l.length) → i < m → l[i].1 = true)) (fun i => n - (intOf i).toNat)
    case atStart => exact ⟨0, Nat.zero_le _, rfl, hid (fun j _ hj => absurd hj (Nat.not_lt_zero _))⟩
    case round =>
      obtain ⟨m, hm2, rfl, hall⟩ := hrel
      by_cases hlt : m < n
      · have i0 : (m : Int) < (n : Int) := by omega
        have i1 : (0 : Int) ≤ (m : Int) := by omega
        have hml : m < l.length := by rw [HL.out]; exact hlt
        obtain ⟨b6, o6, rfl, hb6, hc6⟩ := HX.out (by omega)
        have hq0 := (Q.out.cell ⟨b6, o6 + m * 2, none⟩).trans (sls_cell hc6 hml).1
        have HN0 := (fun (h : l[m].1 = true) => (show ∀ i, (h : i < l.length) → i < m + 1 → l[i].1 = true from fun i h1 h2 => by
          rcases Nat.lt_or_ge i m with h3 | h3
          · exact hall.out i h1 h3
          · have : i = m := by omega
            subst this; exact h))
        have HH0 := (fun (h : l[m].1 = false) => Vt.ff_here hml (fun i hi => hall.out i (by omega) hi) h)
        have HML := hid hml
        obtain ⟨u, hu⟩ : ∃ u, u = l[m].1 := ⟨_, rfl⟩
        have hq : w1.cell? ⟨b6, o6 + m * 2, none⟩ = some (.bool u) := by rw [hu]; exact hq0
        have HN : Hid (u = true → ∀ i, (h : i < l.length) → i < m + 1 → l[i].1 = true) := hid (by rw [hu]; exact HN0)
        have HH : Hid (u = false → Vt.ff l = some m) := hid (by rw [hu]; exact HH0)
        clear hu hc6 hml hall hq0 HN0 HH0
        cases u with
        | true =>
          have HN2 := hid (HN.out rfl)
          go_wp2_with fail
          go_round
          case rel => exact ⟨m + 1, by omega, by go_num, HN2⟩
          case measure => simp [intOf]; omega
        | false =>
          have HH2 := hid (HH.out rfl)
          have HE : Hid (m = j) := hid (by have h1 := HFF.out; have h2 := HH2.out; rw [h1] at h2; exact (Option.some.inj h2).symm)
          go_wp2_with fail
          refine (HSET.out _ m HS1.out HML.out).mono ?_; rintro e w3 ⟨v3, rfl, s3, b3⟩
          rw [HE.out] at s3
          have S3 := hid s3
          have B3 := hid (Bl.call Q.out.bel b3)
          clear s3 b3
          go_wp2
          exact bodyPost_ret (v := .tuple #[v3, .int .i64 (m : Int), .int .i64 0]) (by simp [results, Try.results13, go_sem]) rfl ⟨_, by rw [HE.out]; rfl, S3.out, B3.out⟩
      · have i0 : ¬ (m : Int) < (n : Int) := by omega
        exfalso
        have h1 := HFF.out
        obtain ⟨h2, h3, -⟩ := Vt.ff_some h1
        rw [hall.out _ h2 (by have := HL.out; omega)] at h3
        cases h3
theorem radd_is {v : Value} {n : Nat} {l : List (Bool × Int)} {k : Int} {w : World} (hs : Sl w w.heap.size 2 v n (sls l)) (m : List (Bool × Int)) (z1 z2 : Int) (h : Vt.add l k = (m, z1.toNat, z2.toNat)) (h1 : 0 ≤ z1) (h2 : 0 ≤ z2) :
    Calls Try.prog 13 #[v, .int .u64 k] w (RAddPost w n m z1 z2) := by
  obtain ⟨m', y1, y2, e, c⟩ := radd_any (k := k) hs
  obtain ⟨a, rfl⟩ := Int.eq_ofNat_of_zero_le h1
  obtain ⟨b, rfl⟩ := Int.eq_ofNat_of_zero_le h2
  rw [h] at e
  cases e
  exact c
end Go.Proofs.Ytcbedngimgkcoaa
