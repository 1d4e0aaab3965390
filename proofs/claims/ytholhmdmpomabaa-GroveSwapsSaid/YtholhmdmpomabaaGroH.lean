/- raftsmanlaw10.small; what the three laws begin with; the walk of GroveTrees. -/
import Derived.Test.YtholhmdmpomabaaGroG
namespace Go.Proofs.Ytholhmdmpomabaa
open Go.RowKit Pt
set_option linter.unusedVariables false
set_option linter.unusedSimpArgs false

theorem small_yes {n : Int} {v : Value} {m B : Nat} {xs : List Value} {w : World} (hs : Sl w B 3 v m xs) (h1 : m ≤ 30) (h2 : n ≤ 30) :
    Calls Try.prog 6 #[.int .i64 n, v] w fun e w' => e = .returned (.bool true) ∧ w = w' := by
  obtain ⟨A, c, rfl, _, _, _, _⟩ := hs
  have h3 : (m : Int) ≤ 30 := by omega
  go_enter Try.func6, Try.ntmps6
  go_wp2
  go_ret
  exact ⟨rfl, rfl⟩
theorem small_big {n : Int} {v : Value} {m B : Nat} {xs : List Value} {w : World} (hs : Sl w B 3 v m xs) (h1 : m ≤ 30) (h2 : 1024 < n) :
    Calls Try.prog 6 #[.int .i64 n, v] w fun e w' => e = .returned (.bool true) ∧ w = w' := by
  obtain ⟨A, c, rfl, _, _, _, _⟩ := hs
  have h3 : (m : Int) ≤ 30 := by omega
  have h4 : ¬ n ≤ 30 := by omega
  go_enter Try.func6, Try.ntmps6
  go_wp2
  go_ret
  exact ⟨ret_bool (by first | (simp; done) | (simp; omega)), rfl⟩
theorem small_no {n : Int} {v : Value} {m B : Nat} {xs : List Value} {w : World} (hs : Sl w B 3 v m xs) (h : ¬ (m ≤ 30 ∧ (n ≤ 30 ∨ 1024 < n))) :
    Calls Try.prog 6 #[.int .i64 n, v] w fun e w' => e = .returned (.bool false) ∧ w = w' := by
  obtain ⟨A, c, rfl, _, _, _, _⟩ := hs
  by_cases h1 : m ≤ 30
  · have h3 : (m : Int) ≤ 30 := by omega
    have h4 : ¬ n ≤ 30 := by omega
    have h5 : ¬ 1024 < n := by omega
    clear h
    go_enter Try.func6, Try.ntmps6
    go_wp2
    go_ret
    exact ⟨ret_bool (by first | (simp; done) | (simp; omega)), rfl⟩
  · have h3 : ¬ (m : Int) ≤ 30 := by omega
    clear h
    go_enter Try.func6, Try.ntmps6
    go_wp2
    go_ret
    exact ⟨ret_bool (by first | (simp; done) | (simp; omega)), rfl⟩

/-- How the three laws go on: too much, no forest, or a forest of at most 30 vertices and edges. -/
def Too (n : Int) (m : Nat) : Prop := ¬ (m ≤ 30 ∧ (n ≤ 30 ∨ 1024 < n))
def NoF (n : Int) (l : List Ed) : Prop := n < 0 ∨ 1024 < n ∨ ∃ k : Nat, n = (k : Int) ∧ k ≤ 30 ∧ ¬ Fst k (uv l)
theorem three (n : Int) (l : List Ed) : Too n l.length ∨ (l.length ≤ 30 ∧ (n ≤ 30 ∨ 1024 < n) ∧ NoF n l) ∨ (l.length ≤ 30 ∧ ∃ k : Nat, n = (k : Int) ∧ k ≤ 30 ∧ Fst k (uv l)) := by
  unfold Too NoF
  by_cases h : l.length ≤ 30 ∧ (n ≤ 30 ∨ 1024 < n)
  · right
    rcases h with ⟨h1, h2⟩
    by_cases h3 : n < 0 ∨ 1024 < n
    · exact .inl ⟨h1, h2, h3.imp id .inl⟩
    · obtain ⟨k, rfl⟩ := Int.eq_ofNat_of_zero_le (show 0 ≤ n by omega)
      by_cases hf : Fst k (uv l)
      · exact .inr ⟨h1, k, rfl, by omega, hf⟩
      · exact .inl ⟨h1, h2, .inr (.inr ⟨k, rfl, by omega, hf⟩)⟩
  · exact .inl h
theorem small_is {n : Int} {v : Value} {m B : Nat} {xs : List Value} {w : World} (hs : Sl w B 3 v m xs) (h1 : m ≤ 30) (h2 : n ≤ 30 ∨ 1024 < n) :
    Calls Try.prog 6 #[.int .i64 n, v] w fun e w' => e = .returned (.bool true) ∧ w = w' := by
  rcases h2 with h2 | h2
  · exact small_yes hs h1 h2
  · exact small_big hs h1 h2
theorem gright_nof {n : Int} {v : Value} {m : Nat} {l : List Ed} {w : World} (hs : Sl w w.heap.size 3 v m (eds l)) (h : NoF n l) :
    Calls Try.prog 7 #[.int .i64 n, v] w fun e w' => e = .returned (.bool false) ∧ Below w.heap.size w w' := by
  rcases h with h | h | ⟨k, rfl, hk, hf⟩
  · exact (gright_out (.inl h) v w).mono fun e w' ⟨h1, h2⟩ => ⟨h1, by rw [← h2]; exact Below.refl _ _⟩
  · exact (gright_out (.inr h) v w).mono fun e w' ⟨h1, h2⟩ => ⟨h1, by rw [← h2]; exact Below.refl _ _⟩
  · exact gright_no (by omega) hs hf

/-! ## GroveTrees -/
def mK (P : List Int) (r : Int) (l : List Ed) (k : Nat) : Nat := (l.take k).countP fun e => decide (g P e.1 = r)
theorem mK_le (P : List Int) (r : Int) (l : List Ed) (k : Nat) : mK P r l k ≤ k := by
  have h := List.countP_le_length (p := fun e : Ed => decide (g P e.1 = r)) (l := l.take k)
  have h2 : (l.take k).length ≤ k := List.length_take_le _ _
  unfold mK; omega
theorem mK_step (P : List Int) (r : Int) (l : List Ed) {k : Nat} (h : k < l.length) : mK P r l (k + 1) = mK P r l k + if g P l[k].1 = r then 1 else 0 := by
  unfold mK
  rw [List.take_succ_eq_append_getElem h, List.countP_append]
  by_cases hc : g P l[k].1 = r <;> simp [hc]
theorem mK_all (P : List Int) (r : Int) (l : List Ed) : mK P r l l.length = inE P r (uv l) := by
  unfold mK inE uv
  rw [List.take_length, List.countP_map]
  rfl
theorem class_len {n : Nat} {P : List Int} (hR : Rt P) (hl : P.length = n) {v : Int} (hv : InR n v) : (classL P v).length = inC P (g P v) n := by
  unfold classL
  rw [(rightB_iff _).2 hR, hl, (placeB_iff _ _).2 hv]
  simp only [Bool.and_self, if_true, List.length_map, ← List.countP_eq_length_filter]
  rfl
theorem tree_count {n : Nat} {l : List Ed} (hf : Fst n (uv l)) {v : Int} (hv : InR n v) : (classL (partOf n (uv l)) v).length = mK (partOf n (uv l)) (g (partOf n (uv l)) v) l l.length + 1 := by
  have hR := Rt_partOf hf.1
  have hl := len_partOf n (uv l)
  rw [class_len hR hl hv, mK_all]
  have h1 := hR v (by rw [hl]; exact hv)
  have h2 := hR.inr (v := v) (by rw [hl]; exact hv)
  rw [hl] at h2
  exact hf.trees _ _ h2 h1.2.2

set_option maxRecDepth 100000 in
set_option maxHeartbeats 4000000 in
theorem groveTrees_walk (n : Int) (v : Value) (nn : Nat) (l : List Ed) (w : World) (hs : Sl w w.heap.size 3 v nn (eds l)) :
    Calls Try.prog 5 #[.int .i64 n, v] w (IsTrue w) := by
  have hl : l.length = nn := by have := hs.len; rw [len_eds] at this; omega
  subst hl
  have HS := hid hs
  rcases three n l with h | ⟨h1, h2, h3⟩ | ⟨h1, k, rfl, h2, h3⟩
  · have H := hid h
    clear h hs
    go_enter Try.func5, Try.ntmps5
    go_wp2_with fail
    refine (small_no HS.out H.out).mono ?_; rintro e w' ⟨rfl, rfl⟩
    go_wp2_with fail
    refine (gAwake_any _).mono ?_; rintro e w' ⟨rfl, hb⟩
    go_wp2
    go_ret
    exact ⟨rfl, hb⟩
  · have H := hid h2
    have H3 := hid h3
    clear h2 h3 hs
    go_enter Try.func5, Try.ntmps5
    go_wp2_with fail
    refine (small_is HS.out h1 H.out).mono ?_; rintro e w' ⟨rfl, rfl⟩
    go_wp2_with fail
    refine (gright_nof HS.out H3.out).mono ?_; rintro e w1 ⟨rfl, b1⟩
    have HB1 := hid b1
    clear b1
    go_wp2_with fail
    refine (gAwake_any _).mono ?_; rintro e w' ⟨rfl, hb⟩
    go_wp2
    go_ret
    exact ⟨rfl, Bl.call HB1.out hb⟩
  · have HF := hid h3
    have HM := hid (fst_may h3)
    have hk : (k : Int) ≤ 30 := by omega
    clear h3 hs
    go_enter Try.func5, Try.ntmps5
    go_wp2_with fail
    refine (small_yes HS.out h1 hk).mono ?_; rintro e w' ⟨rfl, rfl⟩
    go_wp2_with fail
    refine (gright_yes (by omega) HS.out HF.out).mono ?_; rintro e w1 ⟨rfl, b1⟩
    have HB1 := hid b1
    have HS1 := hid (HS.out.call b1)
    clear b1
    go_wp2_with fail
    refine (of_ok (by omega) HS1.out (Nat.le_refl _) HM.out).mono ?_; rintro e w2 ⟨v2, rfl, hS, b2⟩
    have HB2 := hid (Bl.call HB1.out b2)
    have HS2 := hid (HS1.out.call b2)
    have HP2 := hid hS
    clear b2 hS
    obtain ⟨P, hP⟩ : ∃ P, P = partOf k (uv l) := ⟨_, rfl⟩
    rw [← hP] at HP2
    have HPE := hid hP
    have hPl : Hid (P.length = k) := hid (by rw [hP, len_partOf])
    clear hP
    obtain ⟨A, c, hv, hnc, hcm, hll, hx⟩ := HS2.out
    subst hv
    obtain ⟨Ap, cp, hvp, hncp, hcmp, hllp, hxp⟩ := HP2.out
    subst hvp
    have h1i : (l.length : Int) ≤ 30 := by omega
    clear hll hx hllp hxp hcm hcmp
    go_wp2_with fail
    go_loopw [30] (fun i wr => ∃ j : Nat, i = .int .i64 (j : Int) ∧ j ≤ k ∧ Hid (Sl wr wr.heap.size 3 (.slice A l.length c) l.length (eds l)) ∧ Hid (Sl wr wr.heap.size 1 (.slice Ap k cp) k (ints P)) ∧ Hid (Below w.heap.size w wr)) (fun i _ => k - (intOf i).toNat)
    case atStart => exact ⟨0, rfl, Nat.zero_le _, HS2, HP2, HB2⟩
    case round =>
      clear HS2 HP2 HB2
      obtain ⟨j, rfl, hj, HS2, HP2, HB2⟩ := hrel
      by_cases hlt : j < k
      · have hji : (j : Int) < (k : Int) := by omega
        have hj0 : (0 : Int) ≤ (j : Int) := by omega
        have HC := hid (tree_count HF.out (v := (j : Int)) ⟨by omega, by omega⟩)
        rw [← HPE.out] at HC
        obtain ⟨t, ht⟩ : ∃ t, t = classL P (j : Int) := ⟨_, rfl⟩
        obtain ⟨tn, htn⟩ : ∃ tn, tn = t.length := ⟨_, rfl⟩
        have HT := hid (And.intro ht htn)
        obtain ⟨r, hr⟩ : ∃ r, r = g P (j : Int) := ⟨_, rfl⟩
        have HR := hid hr
        rw [← ht, ← htn, ← hr] at HC
        clear ht htn hr
        go_wp2_with fail
        refine (tree_any (by omega) HS2.out HF.out (j : Int)).mono ?_; rintro e w3 ⟨v3, rfl, hS3, b3⟩
        rw [← HPE.out, ← HT.out.1, ← HT.out.2] at hS3
        have HT3 := hid hS3
        have HB3 := hid (Bl.call HB2.out b3)
        have HS3 := hid (HS2.out.call b3)
        have HP3 := hid (HP2.out.call b3)
        clear b3 hS3
        go_wp2_with fail
        go_loopw [9, 39] (fun mv i wr => ∃ q : Nat, i = .int .i64 (q : Int) ∧ q ≤ l.length ∧ mv = .int .i64 (mK P r l q : Int) ∧ Hid (Below w3.heap.size w3 wr)) (fun _ i _ => l.length - (intOf i).toNat)
        case atStart => exact ⟨0, rfl, Nat.zero_le _, rfl, hid (Below.refl _ _)⟩
        case round =>
          obtain ⟨q, rfl, hq, rfl, HBQ⟩ := hrel
          have HS4 := hid (HS3.out.call HBQ.out)
          have HP4 := hid (HP3.out.call HBQ.out)
          have HT4 := hid (HT3.out.call HBQ.out)
          have HB4 := hid (Bl.call HB3.out HBQ.out)
          by_cases hql : q < l.length
          · have hqi : (q : Int) < (l.length : Int) := by omega
            obtain ⟨A', c', e1, _, _, _, hx⟩ := HS4.out
            injection e1 with e1 e2 e3
            subst e1 e3
            clear e2
            obtain ⟨bl, ol, rfl, hbl, hcl⟩ := hx (by omega)
            obtain ⟨r0, r1, r2⟩ := eds_cell hcl hql
            obtain ⟨A', c', e1, _, _, _, hx⟩ := HP4.out
            injection e1 with e1 e2 e3
            subst e1 e3
            clear e2
            obtain ⟨bp, op, rfl, hbp, hcp⟩ := hx (by omega)
            have hmay := (mayB_iff k l).1 HM.out (l[q].1, l[q].2.1) (List.mem_map.2 ⟨l[q], List.getElem_mem _, rfl⟩)
            have hst := mK_step P r l hql
            have hle := mK_le P r l q
            generalize l[q] = ed at r0 r1 r2 hmay hst
            obtain ⟨x, y, z⟩ := ed
            dsimp only at r0 r1 r2 hmay hst
            obtain ⟨⟨x0, x1⟩, _, _⟩ := hmay
            have d0 := ints_cell hcp (k := x.toNat) (by rw [hPl.out]; omega)
            have d1 := ints_cell hcp (k := j) (by rw [hPl.out]; omega)
            have d0' : wr.cell? ⟨bp, op + x.toNat, none⟩ = some (.int .i64 (g P x)) := d0
            have d1' : wr.cell? ⟨bp, op + j, none⟩ = some (.int .i64 r) := by rw [HR.out]; simpa [g] using d1
            have n0 := World.new_ne wr ⟨bp, op + x.toNat, none⟩ d0'
            have n1 := World.new_ne wr ⟨bp, op + j, none⟩ d1'
            have HST := hid hst
            generalize g P x = gx at *
            generalize mK P r l q = mq at *
            have hmq : (mq : Int) ≤ 30 := by omega
            clear d0 d1 hx hcl hcp hst
            by_cases he : gx = r
            · have t0 : (gx == r) = true := by simp [he]
              have HE := hid he
              clear he
              go_wp2_with fail
              go_quiet (fail)
              go_wp2
              go_roundw
              case rel => exact ⟨q + 1, by go_num, by omega, by rw [HST.out, if_pos HE.out]; go_num, hid (((Bl.new HBQ.out _).trans ((qt_of _ _).below _)))⟩
              case measure => simp [intOf]; omega
            · have t0 : (gx == r) = false := by simp [he]
              have HE := hid he
              clear he
              go_wp2_with fail
              go_quiet (fail)
              go_wp2
              go_roundw
              case rel => exact ⟨q + 1, by go_num, by omega, by rw [HST.out, if_neg HE.out]; go_num, hid (((Bl.new HBQ.out _).trans ((qt_of _ _).below _)))⟩
              case measure => simp [intOf]; omega
          · obtain rfl : q = l.length := by omega
            have hqi : ¬ (l.length : Int) < (l.length : Int) := by omega
            have hle := mK_le P r l l.length
            obtain ⟨A', c', hv3, _, _, _, _⟩ := HT4.out
            subst hv3
            generalize mK P r l l.length = mq at *
            have hmq : (mq : Int) ≤ 30 := by omega
            have HMQ : Hid (tn = mq + 1) := HC
            have r9 : ((tn : Int) != (mq : Int) + 1) = false := by have := HMQ.out; simp; omega
            go_wp2_with fail
            refine (class_any _ _ _ _ _ _ HP4.out (Nat.le_refl _) (by omega)).mono ?_; rintro e w5 ⟨v5, rfl, ho5, b5⟩
            have HT5 := hid (HT4.out.call b5)
            have HP5 := hid (HP4.out.call b5)
            have HS5 := hid (HS4.out.call b5)
            have HB5 := hid (Bl.call HB4.out b5)
            have HC5 : Hid (Sl w5 w5.heap.size 1 v5 tn (ints t)) := hid (by rw [HT.out.2, HT.out.1]; exact Sl.of_own ho5)
            clear ho5 b5
            go_wp2_with fail
            refine (same_is true (by unfold sameB; simp) HT5.out HC5.out).mono ?_; rintro e w6 ⟨rfl, q6⟩
            have HS6 := hid (HS5.out.cqt q6)
            have HP6 := hid (HP5.out.cqt q6)
            have HB6 := hid (Bl.qt HB5.out q6)
            clear q6
            go_wp2
            go_roundw
            case rel => exact ⟨j + 1, by go_num, by omega, HS6, HP6, HB6⟩
            case measure => simp [intOf]; omega
      · obtain rfl : j = k := by omega
        have hji : ¬ (j : Int) < (j : Int) := by omega
        go_wp2_with fail
        refine (gAwake_any _).mono ?_; rintro e w' ⟨rfl, hb⟩
        go_wp2
        go_ret
        exact ⟨rfl, Bl.call HB2.out hb⟩
end Go.Proofs.Ytholhmdmpomabaa
