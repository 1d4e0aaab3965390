/- The walk of the law PartMore. -/
import Derived.Test.YtkhgjffhelofdaaPartN
import Derived.Test.YtkhgjffhelofdaaPartLaws3
namespace Go.Proofs.Ytkhgjffhelofdaa
open Go.RowKit Pt
set_option linter.unusedVariables false

theorem wl_app1k {ops : Array Oper} {rest : List Oper} {o : Oper} {a : Act} {Q : Exit → Act → World → Prop} {w : World} (hw : Region.wanted o (yielded ops a.tmps) = true) (s x : Operand) {t e : TypeId} {z : Value} {sz by_ : Nat} (hT : SlT t e z sz by_) (hop : o.op = .call { callee := .builtin .append, args := #[s, x], argTypes := #[t, t] })
    {base : Nat} {v : Value} {n : Nat} {xs : List Value} {news : List Value} {e' : TypeId} (k0 : Nat) (hk : k0 = w.heap.size) (hs : a.eval s = v) (hown : w.ownsRow base e sz v n xs) (hx : a.eval x = .slice (some ⟨k0, 0, none⟩) 1 1)
    (hl : news.length = sz) (h1 : ∀ u ∈ news, u.oneCell' = true) (hb : (n + 1) * by_ ≤ 140737488355328) (hbase : base ≤ w.heap.size)
    (h : ∀ v' w', w'.ownsRow base e sz v' (n + 1) (xs ++ news) → Below base w w' → wpList Try.prog ops Q rest (a.put o.dst v') w') : wpList Try.prog ops Q (o :: rest) a (w.alloc (.cells news.toArray e')) := by
  subst hk
  exact wl_app1 hw s x hT hop hs hown hx hl h1 hb hbase h
theorem sameB_refl' (p : List Int) : sameB p p = true := by simp [sameB]

set_option maxRecDepth 100000 in
set_option maxHeartbeats 4000000 in
theorem partMore_walk (n : Int) (v : Value) (m : Nat) (l : List Ed) (a b c : Int) (w : World) (hn : wfI n) (hs : Sl w w.heap.size 3 v m (eds l)) (hl : ∀ e ∈ l, wfI e.1 ∧ wfI e.2.1 ∧ wfI e.2.2) (_ : wfI a) (_ : wfI b) (hc : 0 ≤ c ∧ c ≤ 255) :
    Calls Try.prog 4 #[.int .i64 n, v, .int .i64 a, .int .i64 b, .int .u8 c] w (IsTrue w) := by
  clear hl hn
  have HS := hid hs
  obtain ⟨A, cp, rfl, hnc, hcm, hl, hx⟩ := hs
  have hm : l.length = m := by rw [len_eds] at hl; omega
  subst hm
  have HX := hid hx
  clear hl hx hcm
  by_cases h1 : 60 < l.length
  · have h1' : (60 : Int) < (l.length : Int) := by omega
    go_enter Try.func4, Try.ntmps4
    go_wp2_with fail
    refine (awake_any _).mono ?_; rintro e w' ⟨rfl, hb⟩
    go_wp2
    go_ret
    exact ⟨rfl, hb⟩
  have h1' : ¬ (60 : Int) < (l.length : Int) := by omega
  by_cases h2 : 60 < n
  · go_enter Try.func4, Try.ntmps4
    go_wp2_with fail
    refine (awake_any _).mono ?_; rintro e w' ⟨rfl, hb⟩
    go_wp2
    go_ret
    exact ⟨rfl, hb⟩
  by_cases h3 : n < 1
  · go_enter Try.func4, Try.ntmps4
    go_wp2_with fail
    refine (awake_any _).mono ?_; rintro e w' ⟨rfl, hb⟩
    go_wp2
    go_ret
    exact ⟨rfl, hb⟩
  obtain ⟨k, rfl⟩ := Int.eq_ofNat_of_zero_le (show 0 ≤ n by omega)
  obtain ⟨by_, rfl⟩ := Int.eq_ofNat_of_zero_le hc.1
  have hk : k ≤ 60 := by omega
  have hby : by_ ≤ 255 := by omega
  clear hc
  cases hmay : mayB k (l ++ [(a, b, 0)])
  · have HM := hid hmay
    clear hmay
    go_enter Try.func4, Try.ntmps4
    go_wp2_with (at_builtin; refine wl_app rfl _ _ Teds rfl rfl (own_empty w _ _ _ (Nat.le_refl _)) rfl (HS.out.alloc (Nat.le_refl _) _) (eds_one _) (by omega) (by simp) ?_)
    intro v1 w1 hown1 hbel1
    have hB1 := (bel_new w (.cells #[] 33)).trans hbel1
    have hown1' : w1.ownsRow w.heap.size 33 3 v1 l.length (eds l) := by simpa using hown1
    clear hown1 hbel1
    go_wp2_with (at_builtin; refine wl_app1 rfl _ _ Teds rfl (news := eds [(a, b, 0)]) rfl hown1' rfl rfl (eds_one _) (by omega) hB1.size ?_)
    intro v2 w2 hown2 hbel2
    rw [eds_app] at hown2
    have hB2 := hB1.trans hbel2
    go_wp2_with fail
    refine (may_is false HM.out (Sl.of_own hown2)).mono ?_; rintro e w' ⟨rfl, rfl⟩
    go_wp2_with fail
    refine (awake_any _).mono ?_; rintro e w' ⟨rfl, hb⟩
    go_wp2
    go_ret
    exact ⟨rfl, Bl.call hB2 hb⟩
  · have HM := hid hmay
    have HP := hid (more_part hmay)
    have hml := (more_part hmay).1
    have HMl := hid hml
    have HMt := hid (may_turn (b := by_) hml)
    have HTP := hid (turn_part (b := by_) hml)
    clear hmay hml
    go_enter Try.func4, Try.ntmps4
    go_wp2_with (at_builtin; refine wl_app rfl _ _ Teds rfl rfl (own_empty w _ _ _ (Nat.le_refl _)) rfl (HS.out.alloc (Nat.le_refl _) _) (eds_one _) (by omega) (by simp) ?_)
    intro v1 w1 hown1 hbel1
    have hB1 := (bel_new w (.cells #[] 33)).trans hbel1
    have hown1' : w1.ownsRow w.heap.size 33 3 v1 l.length (eds l) := by simpa using hown1
    clear hown1 hbel1
    go_wp2_with (at_builtin; refine wl_app1 rfl _ _ Teds rfl (news := eds [(a, b, 0)]) rfl hown1' rfl rfl (eds_one _) (by omega) hB1.size ?_)
    intro v2 w2 hown2 hbel2
    rw [eds_app] at hown2
    have hB2 := hB1.trans hbel2
    clear hown1' hbel2 hB1
    go_wp2_with fail
    refine (may_is true HM.out (Sl.of_own hown2)).mono ?_; rintro e w' ⟨rfl, rfl⟩
    have hS2 := HS.out.call hB2
    clear hown2
    go_wp2_with fail
    refine (of_ok (by omega) hS2 (Nat.le_refl _) HMl.out).mono ?_; rintro e w3 ⟨vp, rfl, hP3, hb3⟩
    have hS3 := hS2.call hb3
    have hB3 := Bl.call hB2 hb3
    have HP3 := hid hP3
    have HB3 := hid hB3
    have HS3 := hid hS3
    clear hS2 hB2 hb3 hP3 hB3 hS3
    go_wp2_with (at_builtin; refine wl_app rfl _ _ Teds rfl rfl (own_empty w3 _ _ _ (Nat.le_refl _)) rfl (HS3.out.alloc (Nat.le_refl _) _) (eds_one _) (by omega) (by simp) ?_)
    intro v4 w4 hown4 hbel4
    have hB4 := (bel_new w3 (.cells #[] 33)).trans hbel4
    have hown4' : w4.ownsRow w3.heap.size 33 3 v4 l.length (eds l) := by simpa using hown4
    clear hown4 hbel4
    go_wp2_with (at_builtin; refine wl_app1 rfl _ _ Teds rfl (news := eds [(a, b, 0)]) rfl hown4' rfl rfl (eds_one _) (by omega) hB4.size ?_)
    intro v5 w5 hown5 hbel5
    rw [eds_app] at hown5
    have hB5 := hB4.trans hbel5
    go_wp2_with fail
    refine (of_ok (by omega) (Sl.of_own hown5) (Nat.le_refl _) HM.out).mono ?_; rintro e w6 ⟨vq, rfl, hQ6, hb6⟩
    have hB56 := Bl.call hB5 hb6
    have hQ6' := hQ6
    rw [HP.out.2.2.2.1] at hQ6'
    have HQ6 := hid hQ6
    have HQ6' := hid hQ6'
    have HP6 := hid (HP3.out.call hB56)
    have HS6 := hid (HS3.out.call hB56)
    have HB6 := hid (Bl.call HB3.out hB56)
    clear hown4' hB4 hown5 hbel5 hB5 hb6 hB56 hQ6 hQ6' HP3 HS3 HB3
    go_wp2_with fail
    go_loopw [15, 66] (fun t i wr => ∃ j : Nat, j ≤ l.length ∧ i = .int .i64 j ∧ wr.ownsRow w6.heap.size 33 3 t j (eds (turnK l by_ j)) ∧ Below w6.heap.size w6 wr) (fun _ i _ => l.length - (intOf i).toNat)
    case atStart => exact ⟨0, Nat.zero_le _, rfl, World.ownsRow_nil _ _ _ _, Below.refl _ _⟩
    case round =>
      obtain ⟨j, hj, rfl, hown, hbel⟩ := hrel
      have hsz := hbel.size
      by_cases hjl : j < l.length
      · obtain ⟨bb, o, rfl, hbb, hcc⟩ := HX.out (by omega)
        have ht : (l.length - j + by_) % l.length < l.length := Nat.mod_lt _ (by omega)
        obtain ⟨q1, q2, q3⟩ := eds_cell hcc ht
        have hB6r := (HB6.out.trans (hbel.mono HB6.out.size))
        have d1 := (hB6r.cell (p := ⟨bb, o + ((l.length - j + by_) % l.length) * 3, none⟩) (by show bb < _; omega)).trans q1
        have d2 := (hB6r.cell (p := ⟨bb, o + ((l.length - j + by_) % l.length) * 3 + 1, none⟩) (by show bb < _; omega)).trans q2
        have d3 := (hB6r.cell (p := ⟨bb, o + ((l.length - j + by_) % l.length) * 3 + 2, none⟩) (by show bb < _; omega)).trans q3
        have HT : Hid (turnK l by_ (j + 1) = turnK l by_ j ++ [(l[(l.length - j + by_) % l.length].2.1, l[(l.length - j + by_) % l.length].1, 0)]) := hid (by
          rw [turnK_snoc]; simp [List.getD, ht])
        have ei : ((l.length : Int) - (j : Int) + (by_ : Int)) % (l.length : Int) = (((l.length - j + by_) % l.length : Nat) : Int) := by
          rw [show (l.length : Int) - (j : Int) + (by_ : Int) = ((l.length - j + by_ : Nat) : Int) by omega, Int.natCast_emod]
        clear hcc q1 q2 q3 hB6r
        generalize hx1 : l[(l.length - j + by_) % l.length].1 = x1 at *
        generalize hx2 : l[(l.length - j + by_) % l.length].2.1 = x2 at *
        generalize hx3 : l[(l.length - j + by_) % l.length].2.2 = x3 at *
        clear hx1 hx2 hx3
        generalize htt : (l.length - j + by_) % l.length = tt at *
        clear htt
        have hlp : (0 : Int) < (l.length : Int) := by omega
        have hsz1 : w6.heap.size ≤ (wr.alloc (Obj.cells #[Value.int IntKind.i64 x1, Value.int IntKind.i64 x2, Value.int IntKind.i64 x3] 33)).heap.size := by simp; omega
        go_wp2_with (at_builtin; refine wl_app1k rfl _ _ Teds rfl (news := eds [(x2, x1, 0)]) (wr.heap.size + 1) (by simp) rfl (hown.alloc _) rfl rfl (eds_one _) (by omega) hsz1 ?_)
        intro v' w' hown' hbel'
        rw [eds_app] at hown'
        have HO := hid hown'
        have HB := hid ((hbel.alloc hsz _).trans hbel')
        clear hown' hbel' hown hbel hsz1 hsz ei hlp d1 d2 d3
        go_wp2
        go_roundw
        case rel => exact ⟨j + 1, by omega, by go_num, by rw [HT.out]; exact HO.out, HB.out⟩
        case measure => simp [intOf]; omega
      · obtain rfl : j = l.length := by omega
        have hT := hid (Sl.of_own hown)
        have hP7 := hid (HP6.out.call hbel)
        have hQ7 := hid (HQ6.out.call hbel)
        have hQ7' := hid (HQ6'.out.call hbel)
        have hB7 := hid (Bl.call HB6.out hbel)
        clear hown hbel hsz
        go_wp2_with fail
        refine (of_ok (by omega) hT.out (Nat.le_refl _) HMt.out).mono ?_; rintro e w8 ⟨vr, rfl, hR8, hb8⟩
        rw [← HTP.out] at hR8
        have hP8 := hP7.out.call hb8
        have hQ8 := hQ7.out.call hb8
        have hQ8' := hQ7'.out.call hb8
        have hB8 := Bl.call hB7.out hb8
        clear hb8
        go_wp2_with fail
        refine (refines_is true HP.out.2.2.2.2.1 hP8 hQ8).mono ?_; rintro e w9 ⟨rfl, hq9⟩
        have hP9 := hP8.cqt hq9
        have hQ9 := hQ8.cqt hq9
        have hQ9' := hQ8'.cqt hq9
        have hR9 := hR8.cqt hq9
        have hB9 := Bl.qt hB8 hq9
        clear hP8 hQ8 hQ8' hR8 hB8 hq9
        go_wp2_with fail
        refine (join_any _ _ _ (partOf k (uv l)) a b _ hP9 (Nat.le_refl _) (by omega)).mono ?_; rintro e w10 ⟨vj, rfl, hJ10, hb10⟩
        have hP10 := hP9.call hb10
        have hQ10 := hQ9.call hb10
        have hQ10' := hQ9'.call hb10
        have hR10 := hR9.call hb10
        have hB10 := Bl.call hB9 hb10
        clear hP9 hQ9 hQ9' hR9 hB9 hb10
        go_wp2_with fail
        refine (same_is true (sameB_refl' _) hQ10' hJ10).mono ?_; rintro e w11 ⟨rfl, hq11⟩
        have hP11 := hP10.cqt hq11
        have hQ11 := hQ10.cqt hq11
        have hR11 := hR10.cqt hq11
        have hB11 := Bl.qt hB10 hq11
        clear hP10 hQ10 hQ10' hR10 hB10 hq11 hJ10
        go_wp2_with fail
        refine (same_is true (sameB_refl' _) hP11 hR11).mono ?_; rintro e w12 ⟨rfl, hq12⟩
        have hP12 := hP11.cqt hq12
        have hQ12 := hQ11.cqt hq12
        have hB12 := Bl.qt hB11 hq12
        clear hP11 hQ11 hR11 hB11 hq12
        obtain ⟨mq, hmq⟩ : ∃ t : Nat, manyZ (partOf k (uv (l ++ [(a, b, 0)]))) = t := ⟨_, rfl⟩
        obtain ⟨mp, hmp⟩ : ∃ t : Nat, manyZ (partOf k (uv l)) = t := ⟨_, rfl⟩
        have hM := HP.out.2.2.2.2.2
        rw [hmq, hmp] at hM
        obtain ⟨hM1, hM2⟩ := hM
        have hMp := hid hmp
        have hMq := hid hmq
        have hmpk : mp ≤ 60 := by
          rw [← hmp, manyZ_of (Rt_partOf ((mayB_iff _ _).1 HMl.out)), ← cntK_all]
          have := cntK_le (partOf k (uv l)) (partOf k (uv l)).length
          rw [len_partOf] at this ⊢
          omega
        clear hmq hmp
        go_wp2_with fail
        refine (many_is (mq : Int) (by rw [hMq.out]) hQ12).mono ?_; rintro e w' ⟨rfl, rfl⟩
        go_wp2_with fail
        refine (many_is (mp : Int) (by rw [hMp.out]) hP12).mono ?_; rintro e w' ⟨rfl, rfl⟩
        have i1 : (mq : Int) ≤ mp := by omega
        have i2 : (mp : Int) - 1 ≤ mq := by omega
        go_wp2_with fail
        refine (many_is (mq : Int) (by rw [hMq.out]) hQ12).mono ?_; rintro e w' ⟨rfl, rfl⟩
        go_wp2_with fail
        refine (many_is (mp : Int) (by rw [hMp.out]) hP12).mono ?_; rintro e w' ⟨rfl, rfl⟩
        go_wp2_with fail
        refine (awake_any _).mono ?_; rintro e w13 ⟨rfl, hb13⟩
        go_wp2
        go_ret
        exact ⟨rfl, Bl.call hB12 hb13⟩
end Go.Proofs.Ytkhgjffhelofdaa
