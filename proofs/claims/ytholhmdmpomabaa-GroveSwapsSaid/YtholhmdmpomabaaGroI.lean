/- The walk of GroveWays. -/
import Derived.Test.YtholhmdmpomabaaGroH
import Derived.IntWalk
import Derived.Deep.RegionHeld3
import Derived.Deep.DrawnRows
namespace Go.Proofs.Ytholhmdmpomabaa
open Go.RowKit Pt
set_option linter.unusedVariables false
set_option linter.unusedSimpArgs false
attribute [local go_sem ↓] Go.wp_at_zero Go.wp_at_succ

theorem tr_valid {l : List PE} {v : Int} : ∀ {p : List Nat} {u : Int}, Tr l u p v → ∀ i ∈ p, i < l.length
  | [], u, h => fun i hi => by simp at hi
  | j :: p, u, h => by
    obtain ⟨e, he, _, ht⟩ := h
    intro i hi
    rcases List.mem_cons.1 hi with rfl | hi
    · exact (List.getElem?_eq_some_iff.1 he).1
    · exact tr_valid ht i hi
theorem edsAt_get {l : List Ed} : ∀ {p : List Nat}, (∀ i ∈ p, i < l.length) → (edsAt l p).length = p.length ∧ ∀ (k : Nat) (h : k < p.length), (edsAt l p)[k]? = l[p[k]]?
  | [], _ => ⟨rfl, fun k h => by simp at h⟩
  | j :: p, hv => by
    have hj := hv j (by simp)
    obtain ⟨h1, h2⟩ := edsAt_get (p := p) (fun i hi => hv i (by simp [hi]))
    have e : edsAt l (j :: p) = l[j] :: edsAt l p := by simp [edsAt, List.getElem?_eq_getElem hj]
    rw [e]
    refine ⟨by simp [h1], fun k h => ?_⟩
    cases k with
    | zero => simp [List.getElem?_eq_getElem hj]
    | succ k => simpa using h2 k (by simpa using h)
/-- What stands at a step of a way. -/
theorem tr_at {l : List PE} {v : Int} : ∀ {p : List Nat} {u : Int} {k : Nat} {x : Int}, Tr l u (p.take k) x → Tr l u p v → ∀ (hk : k < p.length), ∃ e, l[p[k]]? = some e ∧ (e.1 = x ∨ e.2 = x) ∧ Tr l u (p.take (k + 1)) (oth e x)
  | [], u, k, x, _, _ => fun hk => by simp at hk
  | j :: p, u, 0, x, h1, h2 => fun _ => by
    obtain ⟨e, he, hu, ht⟩ := h2
    simp [Tr] at h1
    subst h1
    exact ⟨e, he, hu, ⟨e, he, hu, rfl⟩⟩
  | j :: p, u, k + 1, x, h1, h2 => fun hk => by
    obtain ⟨e, he, hu, ht⟩ := h2
    obtain ⟨d, hd, hu', ht'⟩ := h1
    rw [he] at hd; injection hd with hd; subst hd
    obtain ⟨f, hf, hx, ht3⟩ := tr_at ht' ht (k := k) (by simpa using hk)
    exact ⟨f, by simpa using hf, hx, ⟨e, he, hu, ht3⟩⟩

theorem tr_end {l : List PE} {x v : Int} : ∀ {p : List Nat} {u : Int}, Tr l u p x → Tr l u p v → x = v
  | [], u, h1, h2 => by simp [Tr] at h1 h2; rw [← h1, ← h2]
  | j :: p, u, h1, h2 => by
    obtain ⟨e, he, hu, ht⟩ := h1
    obtain ⟨d, hd, hu', ht'⟩ := h2
    rw [he] at hd; injection hd with hd; subst hd
    exact tr_end ht ht'
/-- Path, whatever its ends. -/
theorem path_three {n : Nat} (l : List Ed) (u v : Int) : ¬ (InR n u ∧ InR n v) ∨ ((InR n u ∧ InR n v) ∧ ¬ Cn n (uv l) u v) ∨ ((InR n u ∧ InR n v) ∧ Cn n (uv l) u v) := by
  by_cases h : InR n u ∧ InR n v
  · by_cases hc : Cn n (uv l) u v
    · exact .inr (.inr ⟨h, hc⟩)
    · exact .inr (.inl ⟨h, hc⟩)
  · exact .inl h
theorem cn_symm {n : Nat} {l : List PE} {u v : Int} (h : Cn n l u v) : Cn n l v u := h.symm

set_option maxRecDepth 100000 in
set_option maxHeartbeats 4000000 in
theorem groveWays_walk (n : Int) (v0 : Value) (nn : Nat) (l : List Ed) (u v : Int) (w : World) (hs : Sl w w.heap.size 3 v0 nn (eds l)) :
    Calls Try.prog 4 #[.int .i64 n, v0, .int .i64 u, .int .i64 v] w (IsTrue w) := by
  have hl : l.length = nn := by have := hs.len; rw [len_eds] at this; omega
  subst hl
  have HS := hid hs
  rcases three n l with h | ⟨h1, h2, h3⟩ | ⟨h1, k, rfl, h2, h3⟩
  · have H := hid h
    clear h hs
    go_enter Try.func4, Try.ntmps4
    go_wp2_with fail
    refine (small_no HS.out H.out).mono ?_; rintro e w' ⟨rfl, rfl⟩
    go_wp2_with fail
    refine (gAwake_any _).mono ?_; rintro e w' ⟨rfl, hb⟩
    go_wp2
    go_ret
    exact ⟨rfl, hb⟩
  · have H := hid h2
    have H3 := hid h3
    clear h2 h3 hs
    go_enter Try.func4, Try.ntmps4
    go_wp2_with fail
    refine (small_is HS.out h1 H.out).mono ?_; rintro e w' ⟨rfl, rfl⟩
    go_wp2_with fail
    refine (gright_nof HS.out H3.out).mono ?_; rintro e w1 ⟨rfl, b1⟩
    have HB1 := hid b1
    clear b1
    go_wp2_with fail
    refine (gAwake_any _).mono ?_; rintro e w' ⟨rfl, hb⟩
    go_wp2
    go_ret
    exact ⟨rfl, Bl.call HB1.out hb⟩
  · have HF := hid h3
    have hk : (k : Int) ≤ 30 := by omega
    clear h3 hs
    rcases path_three (n := k) l u v with hp | ⟨⟨hu, hv⟩, hc⟩ | ⟨⟨hu, hv⟩, hc⟩
    · have HP := hid hp
      clear hp
      go_enter Try.func4, Try.ntmps4
      go_wp2_with fail
      refine (small_yes HS.out h1 hk).mono ?_; rintro e w' ⟨rfl, rfl⟩
      go_wp2_with fail
      refine (gright_yes (by omega) HS.out HF.out).mono ?_; rintro e w1 ⟨rfl, b1⟩
      have HB1 := hid b1
      have HS1 := hid (HS.out.call b1)
      clear b1
      go_wp2_with fail
      refine (path_bad (by omega) HS1.out HF.out HP.out).mono ?_; rintro e w2 ⟨rfl, b2⟩
      have HB2 := hid (Bl.call HB1.out b2)
      have HS2 := hid (HS1.out.call b2)
      clear b2
      go_wp2_with fail
      refine (path_bad (by omega) HS2.out HF.out (fun h => HP.out ⟨h.2, h.1⟩)).mono ?_; rintro e w3 ⟨rfl, b3⟩
      have HB3 := hid (Bl.call HB2.out b3)
      clear b3
      go_wp2_with fail
      refine (gAwake_any _).mono ?_; rintro e w' ⟨rfl, hb⟩
      go_wp2
      go_ret
      exact ⟨rfl, Bl.call HB3.out hb⟩
    · have HU := hid hu
      have HV := hid hv
      have HC := hid hc
      clear hu hv hc
      go_enter Try.func4, Try.ntmps4
      go_wp2_with fail
      refine (small_yes HS.out h1 hk).mono ?_; rintro e w' ⟨rfl, rfl⟩
      go_wp2_with fail
      refine (gright_yes (by omega) HS.out HF.out).mono ?_; rintro e w1 ⟨rfl, b1⟩
      have HB1 := hid b1
      have HS1 := hid (HS.out.call b1)
      clear b1
      go_wp2_with fail
      refine (path_none (by omega) HS1.out HF.out HU.out HV.out HC.out).mono ?_; rintro e w2 ⟨rfl, b2⟩
      have HB2 := hid (Bl.call HB1.out b2)
      have HS2 := hid (HS1.out.call b2)
      clear b2
      go_wp2_with fail
      refine (path_none (by omega) HS2.out HF.out HV.out HU.out (fun h => HC.out (cn_symm h))).mono ?_; rintro e w3 ⟨rfl, b3⟩
      have HB3 := hid (Bl.call HB2.out b3)
      clear b3
      go_wp2_with fail
      refine (gAwake_any _).mono ?_; rintro e w' ⟨rfl, hb⟩
      go_wp2
      go_ret
      exact ⟨rfl, Bl.call HB3.out hb⟩
    · have HU := hid hu
      have HV := hid hv
      have HC := hid hc
      clear hu hv hc
      go_enter Try.func4, Try.ntmps4
      go_wp2_with fail
      refine (small_yes HS.out h1 hk).mono ?_; rintro e w' ⟨rfl, rfl⟩
      go_wp2_with fail
      refine (gright_yes (by omega) HS.out HF.out).mono ?_; rintro e w1 ⟨rfl, b1⟩
      have HB1 := hid b1
      have HS1 := hid (HS.out.call b1)
      clear b1
      go_wp2_with fail
      refine (path_ok (by omega) HS1.out HF.out HU.out HV.out HC.out).mono ?_; rintro e w2 ⟨v2, p, rfl, hsm, hsp, b2⟩
      have HB2 := hid (Bl.call HB1.out b2)
      have HS2 := hid (HS1.out.call b2)
      have HSM := hid hsm
      have HP2 := hid hsp
      clear b2 hsm hsp
      go_wp2_with fail
      refine (path_ok (by omega) HS2.out HF.out HV.out HU.out (cn_symm HC.out)).mono ?_; rintro e w3 ⟨v3, q, rfl, hsm, hsp, b3⟩
      have hqr : q = p.reverse := HF.out.unique hsm HSM.out.rev
      subst hqr
      have HB3 := hid (Bl.call HB2.out b3)
      have HP3 := hid (HP2.out.call b3)
      have HQ3 : Hid (Sl w3 w3.heap.size 3 v3 p.length (eds (edsAt l p.reverse))) := hid (by rw [List.length_reverse] at hsp; exact hsp)
      rw [List.length_reverse] at hsp
      have hval := tr_valid HSM.out.1
      have hval2 : ∀ i ∈ p, i < l.length := fun i hi => by have := hval i hi; simpa [uv] using this
      have HG1 := hid (edsAt_get hval2)
      have HG2 := hid (edsAt_get (l := l) (p := p.reverse) (fun i hi => hval2 i (by simpa using hi)))
      have hsh := HSM.out.short HF.out.1 HU.out
      clear b3 hsm hsp hval hval2
      obtain ⟨Ap, cp, hvp, _, _, _, hxp⟩ := HP3.out
      subst hvp
      obtain ⟨Aq, cq, hvq, _, _, _, hxq⟩ := HQ3.out
      subst hvq
      have HXP := hid hxp
      have HXQ := hid hxq
      obtain ⟨m, hm⟩ : ∃ m, m = p.length := ⟨_, rfl⟩
      have HM := hid hm
      have hmk : (m : Int) < (k : Int) := by omega
      have hm0 : ((m : Int) != (m : Int)) = false := by simp
      rw [← hm]
      clear hxp hxq hm
      go_wp2_with fail
      go_loopw [13, 59] (fun av i wr => ∃ (j : Nat) (x : Int), i = .int .i64 (j : Int) ∧ j ≤ m ∧ av = .int .i64 x ∧ Hid (Tr (uv l) u (p.take j) x) ∧ Hid (Below w3.heap.size w3 wr)) (fun _ i _ => m - (intOf i).toNat)
      case atStart => exact ⟨0, u, rfl, Nat.zero_le _, rfl, rfl, hid (Below.refl _ _)⟩
      case round =>
        obtain ⟨j, x, rfl, hj, rfl, HT, HB⟩ := hrel
        by_cases hlt : j < m
        · have hji : (j : Int) < (m : Int) := by omega
          have hjp : j < p.length := by rw [← HM.out]; exact hlt
          obtain ⟨e, he, hex, htn⟩ := tr_at HT.out HSM.out.1 hjp
          have hpj : p[j] < l.length := by
            have := (List.getElem?_eq_some_iff.1 he).1
            simpa [uv] using this
          have he2 := uv_at hpj
          rw [he] at he2
          injection he2 with he2
          have g1 := HG1.out.2 j hjp
          have g2 := HG2.out.2 (m - 1 - j) (by simp; rw [← HM.out]; omega)
          have e3 : p.reverse[m - 1 - j]'(by simp; rw [← HM.out]; omega) = p[j] := by
            rw [List.getElem_reverse]
            congr 1
            rw [← HM.out]; omega
          rw [e3] at g2
          rw [List.getElem?_eq_getElem hpj] at g1 g2
          obtain ⟨bp, op, rfl, hbp, hcp⟩ := HXP.out (by omega)
          obtain ⟨bq, oq, rfl, hbq, hcq⟩ := HXQ.out (by omega)
          have hlp : j < (edsAt l p).length := (List.getElem?_eq_some_iff.1 g1).1
          have hlq : m - 1 - j < (edsAt l p.reverse).length := (List.getElem?_eq_some_iff.1 g2).1
          obtain ⟨r0, r1, r2⟩ := eds_cell hcp hlp
          obtain ⟨s0, s1, s2⟩ := eds_cell hcq hlq
          rw [(List.getElem?_eq_some_iff.1 g1).2] at r0 r1 r2
          rw [(List.getElem?_eq_some_iff.1 g2).2] at s0 s1 s2
          have d0 := (HB.out.cell (p := ⟨bp, op + j * 3, none⟩) hbp).trans r0
          have d1 := (HB.out.cell (p := ⟨bp, op + j * 3 + 1, none⟩) hbp).trans r1
          have d2 := (HB.out.cell (p := ⟨bp, op + j * 3 + 2, none⟩) hbp).trans r2
          have hix : ((m : Int) - 1 - (j : Int)).toNat = m - 1 - j := by omega
          have f0 : wr.cell? ⟨bq, oq + (m - 1 - j) * 3, none⟩ = some (.int .i64 l[p[j]].1) := by exact (HB.out.cell (p := ⟨bq, oq + (m - 1 - j) * 3, none⟩) hbq).trans s0
          have f1 : wr.cell? ⟨bq, oq + (m - 1 - j) * 3 + 1, none⟩ = some (.int .i64 l[p[j]].2.1) := by exact (HB.out.cell (p := ⟨bq, oq + (m - 1 - j) * 3 + 1, none⟩) hbq).trans s1
          have f2 : wr.cell? ⟨bq, oq + (m - 1 - j) * 3 + 2, none⟩ = some (.int .i64 l[p[j]].2.2) := by exact (HB.out.cell (p := ⟨bq, oq + (m - 1 - j) * 3 + 2, none⟩) hbq).trans s2
          have hmr := HF.out.1 e (List.mem_of_getElem? he)
          have hor := oth_in hmr x
          have hsum := oth_sum hex
          have HTN := hid htn
          generalize l[p[j]] = ed at d0 d1 d2 f0 f1 f2 he2
          obtain ⟨ex, ey, et⟩ := ed
          dsimp only at d0 d1 d2 f0 f1 f2 he2
          subst he2
          dsimp only at hmr hex hsum
          obtain ⟨⟨x0, x1⟩, y0, y1⟩ := hmr
          obtain ⟨z, hz⟩ : ∃ z, z = oth (ex, ey) x := ⟨_, rfl⟩
          rw [← hz] at hsum hor HTN
          obtain ⟨z0, z1⟩ := hor
          have n0 := cell_later (bel_new wr (.cells #[.int .i64 ex, .int .i64 ey, .int .i64 et] 29)) f0
          have n1 := cell_later (bel_new wr (.cells #[.int .i64 ex, .int .i64 ey, .int .i64 et] 29)) f1
          have n2 := cell_later (bel_new wr (.cells #[.int .i64 ex, .int .i64 ey, .int .i64 et] 29)) f2
          clear f0 f1 f2
          have i1 : (0 : Int) ≤ (m : Int) - 1 - (j : Int) := by omega
          have i2 : (m : Int) - 1 - (j : Int) < (m : Int) := by omega
          have c1 : (ex == ex) = true := by simp
          have c2 : (ey == ey) = true := by simp
          have c3 : (et == et) = true := by simp
          have hx01 : 0 ≤ x ∧ x ≤ 30 := by rcases hex with h | h <;> omega
          obtain ⟨hx0, hx1⟩ := hx01
          have HSUM := hid hsum
          have k1 : IntKind.i64.wrap ((m : Int) - 1) = (m : Int) - 1 := IntWalk.i64_in _ (by omega)
          have k2 : IntKind.i64.wrap ((m : Int) - 1 - (j : Int)) = (m : Int) - 1 - (j : Int) := IntWalk.i64_in _ (by omega)
          clear he hcp hcq r0 r1 r2 s0 s1 s2 g1 g2 e3 hix hz htn hlp hlq hsum
          by_cases hux : ex = x
          · have t0 : (ex != x) = false := by simp [hux]
            clear hex hux
            go_wp2_with fail
            go_quiet (fail)
            go_wp2
            go_roundw
            case rel => exact ⟨j + 1, z, by go_num, by omega, by rw [← HSUM.out], HTN, hid ((HB.out.alloc HB.out.size _).trans ((qt_of _ _).below _))⟩
            case measure => simp [intOf]; omega
          · have huy : ey = x := hex.resolve_left hux
            have t0 : (ex != x) = true := by simp [hux]
            have t1 : (ey != x) = false := by simp [huy]
            clear hex hux huy
            go_wp2_with fail
            go_quiet (fail)
            go_wp2
            go_roundw
            case rel => exact ⟨j + 1, z, by go_num, by omega, by rw [← HSUM.out], HTN, hid ((HB.out.alloc HB.out.size _).trans ((qt_of _ _).below _))⟩
            case measure => simp [intOf]; omega
        · obtain rfl : j = m := by omega
          have hji : ¬ (j : Int) < (j : Int) := by omega
          have hxv : x = v := by
            have h := HT.out
            rw [List.take_of_length_le (by rw [← HM.out]; exact Nat.le_refl _)] at h
            exact tr_end h HSM.out.1
          subst hxv
          have t0 : (x == x) = true := by simp
          have HB4 := hid (Bl.call HB3.out HB.out)
          go_wp2_with fail
          refine (gAwake_any _).mono ?_; rintro e w' ⟨rfl, hb⟩
          go_wp2
          go_ret
          exact ⟨rfl, Bl.call HB4.out hb⟩
end Go.Proofs.Ytholhmdmpomabaa
