/- The walk of GroveSwaps. -/
import Derived.Test.YtholhmdmpomabaaGroI
namespace Go.Proofs.Ytholhmdmpomabaa
open Go.RowKit Pt
set_option linter.unusedVariables false
set_option linter.unusedSimpArgs false

section
variable {ops : Array Oper} {rest : List Oper} {o : Oper} {a : Act} {Q : Exit → Act → World → Prop} {w : World}
/-- out = append(out, x), with the new block's number as the walk writes it. -/
theorem wl_app1H (hw : Region.wanted o (yielded ops a.tmps) = true) (s x : Operand) {t e : TypeId} {z : Value} {sz by_ : Nat} (hT : SlT t e z sz by_) (hop : o.op = .call { callee := .builtin .append, args := #[s, x], argTypes := #[t, t] })
    {base : Nat} {v : Value} {n : Nat} {xs : List Value} {news : List Value} {e' : TypeId} (hs : a.eval s = v) (hown : w.ownsRow base e sz v n xs) {H : Nat} (hx : a.eval x = .slice (some ⟨H, 0, none⟩) 1 1) (hH : w.heap.size = H)
    (hl : news.length = sz) (h1 : ∀ u ∈ news, u.oneCell' = true) (hb : (n + 1) * by_ ≤ 140737488355328) (hbase : base ≤ w.heap.size)
    (h : ∀ v' w', w'.ownsRow base e sz v' (n + 1) (xs ++ news) → Below base w w' → wpList Try.prog ops Q rest (a.put o.dst v') w') : wpList Try.prog ops Q (o :: rest) a (w.alloc (.cells news.toArray e')) := by
  subst hH
  exact wl_app1 hw s x hT hop hs hown hx hl h1 hb hbase h
end
theorem uv_erase (l : List Ed) (i : Nat) : uv (l.eraseIdx i) = (uv l).eraseIdx i := by
  unfold uv
  induction l generalizing i with
  | nil => simp
  | cons a l ih =>
    cases i with
    | zero => simp
    | succ i => simp [ih]
theorem uv_app (l m : List Ed) : uv (l ++ m) = uv l ++ uv m := by simp [uv]
def rs (l : List Ed) (i j : Nat) : List Ed := (l.take j).eraseIdx i
theorem rs_len (l : List Ed) (i j : Nat) : (rs l i j).length ≤ j := by
  unfold rs
  have h1 := List.length_eraseIdx_le (l.take j) i
  have h2 : (l.take j).length ≤ j := List.length_take_le _ _
  omega
theorem rs_skip (l : List Ed) {i : Nat} (h : i < l.length) : rs l i (i + 1) = rs l i i := by
  unfold rs
  rw [List.take_succ_eq_append_getElem h]
  have h2 : (l.take i).length = i := by simp; omega
  rw [List.eraseIdx_append_of_length_le (by omega), h2, Nat.sub_self, List.eraseIdx_of_length_le (l := l.take i) (by omega)]
  simp
theorem rs_next (l : List Ed) {i j : Nat} (h : j < l.length) (hne : j ≠ i) : rs l i (j + 1) = rs l i j ++ [l[j]] := by
  unfold rs
  rw [List.take_succ_eq_append_getElem h]
  have h2 : (l.take j).length = j := by simp; omega
  rcases Nat.lt_or_ge i j with h3 | h3
  · rw [List.eraseIdx_append_of_lt_length (by omega)]
  · rw [List.eraseIdx_of_length_le (by simp; omega), List.eraseIdx_of_length_le (l := l.take j) (by omega)]
theorem rs_all (l : List Ed) (i : Nat) : rs l i l.length = l.eraseIdx i := by unfold rs; rw [List.take_length]

set_option maxRecDepth 100000 in
set_option maxHeartbeats 4000000 in
theorem groveSwaps_walk (n : Int) (v0 : Value) (nn : Nat) (l : List Ed) (u v : Int) (at_ : Int) (w : World) (hs : Sl w w.heap.size 3 v0 nn (eds l)) (hat : 0 ≤ at_ ∧ at_ ≤ 255) :
    Calls Try.prog 3 #[.int .i64 n, v0, .int .i64 u, .int .i64 v, .int .u8 at_] w (IsTrue w) := by
  have hl : l.length = nn := by have := hs.len; rw [len_eds] at this; omega
  subst hl
  have HS := hid hs
  obtain ⟨at0, at1⟩ := hat
  obtain ⟨at_, rfl⟩ := Int.eq_ofNat_of_zero_le at0
  rcases three n l with h | ⟨h1, h2, h3⟩ | ⟨h1, k, rfl, h2, h3⟩
  · have H := hid h
    clear h hs
    go_enter Try.func3, Try.ntmps3
    go_wp2_with fail
    refine (small_no HS.out H.out).mono ?_; rintro e w' ⟨rfl, rfl⟩
    go_wp2_with fail
    refine (gAwake_any _).mono ?_; rintro e w' ⟨rfl, hb⟩
    go_wp2
    go_ret
    exact ⟨rfl, hb⟩
  · have H := hid h2
    have H3 := hid h3
    clear h2 h3 hs
    go_enter Try.func3, Try.ntmps3
    go_wp2_with fail
    refine (small_is HS.out h1 H.out).mono ?_; rintro e w' ⟨rfl, rfl⟩
    go_wp2_with fail
    refine (gright_nof HS.out H3.out).mono ?_; rintro e w1 ⟨rfl, b1⟩
    have HB1 := hid b1
    clear b1
    go_wp2_with fail
    refine (gAwake_any _).mono ?_; rintro e w' ⟨rfl, hb⟩
    go_wp2
    go_ret
    exact ⟨rfl, Bl.call HB1.out hb⟩
  · have HF := hid h3
    have hk : (k : Int) ≤ 30 := by omega
    clear h3 hs
    rcases path_three (n := k) l u v with hp | ⟨⟨hu, hv⟩, hc⟩ | ⟨⟨hu, hv⟩, hc⟩
    · have HP := hid hp
      clear hp
      go_enter Try.func3, Try.ntmps3
      go_wp2_with fail
      refine (small_yes HS.out h1 hk).mono ?_; rintro e w' ⟨rfl, rfl⟩
      go_wp2_with fail
      refine (gright_yes (by omega) HS.out HF.out).mono ?_; rintro e w1 ⟨rfl, b1⟩
      have HB1 := hid b1
      have HS1 := hid (HS.out.call b1)
      clear b1
      go_wp2_with fail
      refine (path_bad (by omega) HS1.out HF.out HP.out).mono ?_; rintro e w2 ⟨rfl, b2⟩
      have HB2 := hid (Bl.call HB1.out b2)
      clear b2
      go_wp2_with fail
      refine (gAwake_any _).mono ?_; rintro e w' ⟨rfl, hb⟩
      go_wp2
      go_ret
      exact ⟨rfl, Bl.call HB2.out hb⟩
    · have HU := hid hu
      have HV := hid hv
      have HC := hid hc
      clear hu hv hc
      go_enter Try.func3, Try.ntmps3
      go_wp2_with fail
      refine (small_yes HS.out h1 hk).mono ?_; rintro e w' ⟨rfl, rfl⟩
      go_wp2_with fail
      refine (gright_yes (by omega) HS.out HF.out).mono ?_; rintro e w1 ⟨rfl, b1⟩
      have HB1 := hid b1
      have HS1 := hid (HS.out.call b1)
      clear b1
      go_wp2_with fail
      refine (path_none (by omega) HS1.out HF.out HU.out HV.out HC.out).mono ?_; rintro e w2 ⟨rfl, b2⟩
      have HB2 := hid (Bl.call HB1.out b2)
      clear b2
      go_wp2_with fail
      refine (gAwake_any _).mono ?_; rintro e w' ⟨rfl, hb⟩
      go_wp2
      go_ret
      exact ⟨rfl, Bl.call HB2.out hb⟩
    · have HU := hid hu
      have HV := hid hv
      have HC := hid hc
      clear hu hv hc
      go_enter Try.func3, Try.ntmps3
      go_wp2_with fail
      refine (small_yes HS.out h1 hk).mono ?_; rintro e w' ⟨rfl, rfl⟩
      go_wp2_with fail
      refine (gright_yes (by omega) HS.out HF.out).mono ?_; rintro e w1 ⟨rfl, b1⟩
      have HB1 := hid b1
      have HS1 := hid (HS.out.call b1)
      clear b1
      go_wp2_with fail
      refine (path_ok (by omega) HS1.out HF.out HU.out HV.out HC.out).mono ?_; rintro e w2 ⟨v2, p, rfl, hsm, hsp, b2⟩
      obtain ⟨Ap, cp, hvp, _, _, _, hxp⟩ := hsp
      subst hvp
      by_cases hp0 : p.length = 0
      · rw [hp0]
        have HB2 := hid (Bl.call HB1.out b2)
        clear b2 hxp hsm hp0
        go_wp2_with fail
        refine (gAwake_any _).mono ?_; rintro e w' ⟨rfl, hb⟩
        go_wp2
        go_ret
        exact ⟨rfl, Bl.call HB2.out hb⟩
      have HB2 := hid (Bl.call HB1.out b2)
      have HS2 := hid (HS1.out.call b2)
      have hsh := hsm.short HF.out.1 HU.out
      have hval := tr_valid hsm.1
      have hval2 : ∀ i ∈ p, i < l.length := fun i hi => by have := hval i hi; simpa [uv] using this
      obtain ⟨m, hm⟩ : ∃ m, m = p.length := ⟨_, rfl⟩
      have hm0 : 0 < m := by omega
      have hm1 : m ≤ 30 := by omega
      obtain ⟨kk, hkk⟩ : ∃ kk, kk = at_ % m := ⟨_, rfl⟩
      have hkm : kk < m := by rw [hkk]; exact Nat.mod_lt _ hm0
      have hkp : kk < p.length := by omega
      have HSW := hid (HF.out.swap HU.out HV.out hsm hkp)
      obtain ⟨i0, hi0⟩ : ∃ i0, i0 = p[kk] := ⟨_, rfl⟩
      rw [← hi0] at HSW
      have hi0l : i0 < l.length := by rw [hi0]; exact hval2 _ (List.getElem_mem _)
      have g1 := (edsAt_get hval2).2 kk hkp
      rw [← hi0, List.getElem?_eq_getElem hi0l] at g1
      obtain ⟨bp, op, rfl, hbp, hcp⟩ := hxp (by omega)
      have hlp : kk < (edsAt l p).length := (List.getElem?_eq_some_iff.1 g1).1
      obtain ⟨r0, r1, r2⟩ := eds_cell hcp hlp
      rw [(List.getElem?_eq_some_iff.1 g1).2] at r0 r1 r2
      have et : (at_ : Int) % (m : Int) = (kk : Int) := by rw [hkk]; simp
      have HINJ : Hid (∀ j (hj : j < l.length), j ≠ i0 → ¬ (l[j].1 = l[i0].1 ∧ l[j].2.1 = l[i0].2.1)) := hid (fun j hj hne h => hne (HF.out.inj (uv_at hj) (by rw [uv_at hi0l, h.1, h.2])))
      have HGE := hid (rfl : l[i0] = l[i0])
      have HG : Hid (∃ e, e = l[i0]) := hid ⟨_, rfl⟩
      obtain ⟨ge, hge⟩ := HG.out
      rw [← hge] at r0 r1 r2 HINJ
      have HGEQ := hid hge
      clear hge HG HGE
      obtain ⟨gx, gy, gt⟩ := ge
      dsimp only at r0 r1 r2
      have HM := hid hm
      rw [← hm]
      have hm2 : ((m : Int) == 0) = false := by simp; omega
      have km1 : (kk : Int) < (m : Int) := by omega
      have km2 : (0 : Int) < (m : Int) := by omega
      have km3 : (m : Int) ≤ 30 := by omega
      obtain ⟨A, c, hv0, _, _, _, hx⟩ := HS2.out
      subst hv0
      have h1i : (l.length : Int) ≤ 30 := by omega
      clear hm hkk hi0 hkp hxp hcp g1 hlp hp0 hval hval2 hsm hsh b2 hx
      go_wp2_with fail
      obtain ⟨w3, hw3⟩ : ∃ w3, w3 = w2.alloc (.cells #[.int .i64 gx, .int .i64 gy, .int .i64 gt] 29) := ⟨_, rfl⟩
      obtain ⟨KG, hKG⟩ : ∃ KG, KG = w2.heap.size := ⟨_, rfl⟩
      have b3 : Below w2.heap.size w2 w3 := by rw [hw3]; exact bel_new _ _
      have HB3 := hid (Bl.call HB2.out b3)
      have HS3 := hid (HS2.out.call b3)
      have HK3 : Hid (Blk w3 KG 29 [.int .i64 gx, .int .i64 gy, .int .i64 gt]) := hid (by rw [hw3, hKG]; exact Blk.new _ _ _)
      rw [← hKG, ← hw3]
      clear hw3 hKG b3 r0 r1 r2 et
      go_loopw [14, 61] (fun rv i wr => ∃ j : Nat, i = .int .i64 (j : Int) ∧ j ≤ l.length ∧ Hid (wr.ownsRow w3.heap.size 29 3 rv (rs l i0 j).length (eds (rs l i0 j))) ∧ Hid (Below w3.heap.size w3 wr)) (fun _ i _ => l.length - (intOf i).toNat)
      case atStart => exact ⟨0, rfl, Nat.zero_le _, by rw [show rs l i0 0 = [] by simp [rs]]; exact World.ownsRow_nil _ _ _ _, hid (Below.refl _ _)⟩
      case round =>
        obtain ⟨j, rfl, hj, HO, HB⟩ := hrel
        have HS4 := hid (HS3.out.call HB.out)
        have HK4 := hid (HK3.out.below HB.out HK3.out.lt)
        by_cases hlt : j < l.length
        · have hji : (j : Int) < (l.length : Int) := by omega
          obtain ⟨A', c', e1, _, _, _, hx⟩ := HS4.out
          injection e1 with e1 e2 e3
          subst e1 e3
          clear e2
          obtain ⟨bl, ol, rfl, hbl, hcl⟩ := hx (by omega)
          obtain ⟨r0, r1, r2⟩ := eds_cell hcl hlt
          have k0 := HK4.out.cell 0
          have k1 := HK4.out.cell 1
          have k2 := HK4.out.cell 2
          have hrl := rs_len l i0 j
          by_cases hj0 : j = i0
          · subst hj0
            have hlj : l[j] = (gx, gy, gt) := HGEQ.out.symm
            have hsk := rs_skip l hlt
            rw [hlj] at r0 r1 r2
            dsimp only at r0 r1 r2
            have HSK := hid hsk
            have n0 := cell_later (bel_new wr (.cells #[.int .i64 gx, .int .i64 gy, .int .i64 gt] 29)) k0
            have n1 := cell_later (bel_new wr (.cells #[.int .i64 gx, .int .i64 gy, .int .i64 gt] 29)) k1
            have n2 := cell_later (bel_new wr (.cells #[.int .i64 gx, .int .i64 gy, .int .i64 gt] 29)) k2
            clear hx hcl hsk hlj
            go_wp2
            go_roundw
            case rel => exact ⟨j + 1, by go_num, by omega, by rw [HSK.out]; exact hid (own_below HO.out (bel_new _ _)), hid (HB.out.alloc HB.out.size _)⟩
            case measure => simp [intOf]; omega
          · have hnx := rs_next l hlt hj0
            have hne := HINJ.out j hlt hj0
            generalize l[j] = ed at r0 r1 r2 hnx hne
            obtain ⟨ex, ey, et⟩ := ed
            dsimp only at r0 r1 r2 hne
            have HNX := hid hnx
            have n0 := cell_later (bel_new wr (.cells #[.int .i64 ex, .int .i64 ey, .int .i64 et] 29)) k0
            have n1 := cell_later (bel_new wr (.cells #[.int .i64 ex, .int .i64 ey, .int .i64 et] 29)) k1
            have n2 := cell_later (bel_new wr (.cells #[.int .i64 ex, .int .i64 ey, .int .i64 et] 29)) k2
            have HOA := hid (HO.out.alloc (.cells #[.int .i64 ex, .int .i64 ey, .int .i64 et] 29))
            have HSZ := hid HB.out.size
            have HSA : Hid (w3.heap.size ≤ (wr.alloc (.cells #[.int .i64 ex, .int .i64 ey, .int .i64 et] 29)).heap.size) := hid (by have := HSZ.out; simp; omega)
            have HBA : Hid (Below w3.heap.size w3 (wr.alloc (.cells #[.int .i64 ex, .int .i64 ey, .int .i64 et] 29))) := hid (HB.out.alloc HB.out.size _)
            have HHA : Hid ((wr.alloc (.cells #[.int .i64 ex, .int .i64 ey, .int .i64 et] 29)).heap.size = wr.heap.size + 1) := hid (by simp)
            have HRL : Hid ((rs l i0 j).length ≤ 30) := hid (by omega)
            obtain ⟨rn, hrn⟩ : ∃ rn, rn = (rs l i0 j).length := ⟨_, rfl⟩
            clear hx hcl hnx hrl hrn
            by_cases hxe : ex = gx
            · have hye : (ey == gy) = false := by simp; intro h; exact hne ⟨hxe, h⟩
              subst hxe
              have hye2 : ¬ ey = gy := by simpa using hye
              clear hne
              go_wp2_with (at_builtin; go_loud (refine wl_app1H rfl _ _ Teds rfl (news := [.int .i64 ex, .int .i64 ey, .int .i64 et]) rfl HOA.out rfl HHA.out rfl (eds_one [(ex, ey, et)]) (by have := HRL.out; omega) HSA.out ?_))
              intro v5 w5 hO5 hB5
              have HO5 := hid hO5
              have HB5 := hid (HBA.out.trans hB5)
              clear hO5 hB5
              go_wp2
              go_roundw
              case rel => exact ⟨j + 1, by go_num, by omega, by rw [HNX.out, ← eds_app, List.length_append]; exact HO5, HB5⟩
              case measure => simp [intOf]; omega
            · have hxe2 : (ex == gx) = false := by simp [hxe]
              clear hne
              go_wp2_with (at_builtin; (refine wl_app1H rfl _ _ Teds rfl (news := [.int .i64 ex, .int .i64 ey, .int .i64 et]) rfl HOA.out rfl HHA.out rfl (eds_one [(ex, ey, et)]) (by have := HRL.out; omega) HSA.out ?_))
              intro v5 w5 hO5 hB5
              have HO5 := hid hO5
              have HB5 := hid (HBA.out.trans hB5)
              clear hO5 hB5
              go_wp2
              go_roundw
              case rel => exact ⟨j + 1, by go_num, by omega, by rw [HNX.out, ← eds_app, List.length_append]; exact HO5, HB5⟩
              case measure => simp [intOf]; omega
        · obtain rfl : j = l.length := by omega
          have hji : ¬ (l.length : Int) < (l.length : Int) := by omega
          obtain ⟨R, hR⟩ : ∃ R, R = l.eraseIdx i0 := ⟨_, rfl⟩
          rw [rs_all, ← hR] at HO
          rw [← uv_erase, ← hR] at HSW
          have HR4 : Hid (Sl wr wr.heap.size 3 u14 R.length (eds R)) := hid (Sl.of_own HO.out)
          have HRn : Hid (R.length ≤ 30) := hid (by rw [hR]; have := List.length_eraseIdx_le l i0; omega)
          have HB4 := hid (Bl.call HB3.out HB.out)
          clear HO HB HK4 hR
          have HNF : Hid (¬ Fst k (uv (l ++ [(u, v, 0)]))) := hid (by rw [uv_app]; exact HSW.out.2.2.2.2)
          have HFM : Hid (Fst k (uv (R ++ [(u, v, 0)]))) := hid (by rw [uv_app]; exact HSW.out.2.2.1)
          have HPE : Hid (partOf k (uv (R ++ [(u, v, 0)])) = partOf k (uv l)) := hid (by rw [uv_app]; exact HSW.out.2.2.2.1)
          go_wp2_with (at_builtin; refine wl_app rfl _ _ Teds rfl rfl (own_empty wr _ _ _ (Nat.le_refl _)) rfl (HS4.out.alloc (Nat.le_refl _) _) (eds_one _) (by omega) (by simp) ?_)
          intro v5 w5 hown1 hbel1
          have hB1 := (bel_new wr (.cells #[] 29)).trans hbel1
          have hown1' : w5.ownsRow wr.heap.size 29 3 v5 l.length (eds l) := by simpa using hown1
          clear hown1 hbel1
          go_wp2_with (at_builtin; refine wl_app1 rfl _ _ Teds rfl (news := eds [(u, v, 0)]) rfl hown1' rfl rfl (eds_one _) (by omega) hB1.size ?_)
          intro v6 w6 hown2 hbel2
          rw [eds_app] at hown2
          have hB2 := hB1.trans hbel2
          have HS6 := hid (HS4.out.call hB2)
          have HR6 := hid (HR4.out.call hB2)
          have HB6 := hid (Bl.call HB4.out hB2)
          have HX6 : Hid (Sl w6 w6.heap.size 3 v6 (l.length + 1) (eds (l ++ [(u, v, 0)]))) := hid (Sl.of_own hown2)
          clear hown1' hbel2 hB1 hB2 hown2
          go_wp2_with fail
          refine (gright_no (by omega) HX6.out HNF.out).mono ?_; rintro e w7 ⟨rfl, b7⟩
          have HS7 := hid (HS6.out.call b7)
          have HR7 := hid (HR6.out.call b7)
          have HB7 := hid (Bl.call HB6.out b7)
          clear b7
          go_wp2_with fail
          refine (path_none (by omega) HR7.out (HSW.out.1) HU.out HV.out HSW.out.2.1).mono ?_; rintro e w8 ⟨rfl, b8⟩
          have HS8 := hid (HS7.out.call b8)
          have HR8 := hid (HR7.out.call b8)
          have HB8 := hid (Bl.call HB7.out b8)
          clear b8
          go_wp2_with (at_builtin; refine wl_app rfl _ _ Teds rfl rfl (own_empty w8 _ _ _ (Nat.le_refl _)) rfl (HR8.out.alloc (Nat.le_refl _) _) (eds_one _) (by have := HRn.out; omega) (by simp) ?_)
          intro v9 w9 hown1 hbel1
          have hB1 := (bel_new w8 (.cells #[] 29)).trans hbel1
          have hown1' : w9.ownsRow w8.heap.size 29 3 v9 R.length (eds R) := by simpa using hown1
          clear hown1 hbel1
          go_wp2_with (at_builtin; refine wl_app1 rfl _ _ Teds rfl (news := eds [(u, v, 0)]) rfl hown1' rfl rfl (eds_one _) (by have := HRn.out; omega) hB1.size ?_)
          intro v10 w10 hown2 hbel2
          rw [eds_app] at hown2
          have hB2 := hB1.trans hbel2
          have HS10 := hid (HS8.out.call hB2)
          have HB10 := hid (Bl.call HB8.out hB2)
          have HX10 : Hid (Sl w10 w10.heap.size 3 v10 (R.length + 1) (eds (R ++ [(u, v, 0)]))) := hid (Sl.of_own hown2)
          clear hown1' hbel2 hB1 hB2 hown2
          go_wp2_with fail
          refine (of_ok (by omega) HS10.out (Nat.le_refl _) (fst_may HF.out)).mono ?_; rintro e w11 ⟨v11, rfl, hP, b11⟩
          have HP11 := hid hP
          have HX11 := hid (HX10.out.call b11)
          have HB11 := hid (Bl.call HB10.out b11)
          clear b11 hP
          go_wp2_with fail
          refine (of_ok (by omega) HX11.out (Nat.le_refl _) (fst_may HFM.out)).mono ?_; rintro e w12 ⟨v12, rfl, hP, b12⟩
          rw [HPE.out] at hP
          have HQ12 := hid hP
          have HP12 := hid (HP11.out.call b12)
          have HX12 := hid (HX11.out.call b12)
          have HB12 := hid (Bl.call HB11.out b12)
          clear b12 hP
          go_wp2_with fail
          refine (gright_yes (by omega) HX12.out HFM.out).mono ?_; rintro e w13 ⟨rfl, b13⟩
          have HP13 := hid (HP12.out.call b13)
          have HQ13 := hid (HQ12.out.call b13)
          have HB13 := hid (Bl.call HB12.out b13)
          clear b13
          go_wp2_with fail
          refine (same_is true (by unfold sameB; simp) HP13.out HQ13.out).mono ?_; rintro e w14 ⟨rfl, q14⟩
          have HB14 := hid (Bl.qt HB13.out q14)
          clear q14
          go_wp2_with fail
          refine (gAwake_any _).mono ?_; rintro e w' ⟨rfl, hb⟩
          go_wp2
          go_ret
          exact ⟨rfl, Bl.call HB14.out hb⟩
end Go.Proofs.Ytholhmdmpomabaa
