/- The texts TpV, TpW, TpX, TpY, merged. No theorem here is a claim by itself. -/
import Derived.Test.YtahodfikhocobaaGreatDoorMa5
import Derived.Lib.AppendZerosOnto
import Derived.Deep.RegionHeld3
namespace Go.Proofs.YtahodfikhocobaaGreatDoor
open Go.RowKit
set_option linter.unusedVariables false
set_option linter.unusedSimpArgs false
attribute [local go_sem ↓] Go.wp_at_zero Go.wp_at_succ
section
variable {n L R : Nat} {hs : List (Nat × Nat)} {es : List (Int × Int × Int)} {vh ve : Value} {w : World}
theorem cut_in (hp : GP n L R hs es) (c : List Int) : ∀ e ∈ Tp.cutL es c, 0 ≤ e.1 ∧ e.1 < e.2.1 ∧ e.2.1 ≤ 2000 := by
  intro e he
  have := hp.gd.tb.1 e (Tp.mem_cut.1 he).1
  have := hp.n2
  unfold Tp.EOk at *; omega
theorem cut_len (hp : GP n L R hs es) (c : List Int) : (Tp.cutL es c).length ≤ 1000000 := by
  have h1 : (Tp.cutL es c).length ≤ es.length := List.length_filter_le _ _
  have := hp.el; omega
/-- An edge that is found, or none. -/
def seV : Option (Int × Int × Int) → Value
  | some e => .tuple #[.agg #[.int .i64 e.1, .int .i64 e.2.1, .int .i64 e.2.2], .bool true]
  | none => .tuple #[.agg #[.int .i64 0, .int .i64 0, .int .i64 0], .bool false]
def SePost (r : Option (Int × Int × Int)) (w : World) (e : Ending) (w' : World) : Prop := e = .returned (seV r) ∧ Below w.heap.size w w'
/-- What a search in a cut finds. -/
def found (hl : List (Nat × Nat)) (R V : Nat) (cut : List (Int × Int × Int)) : Option (Int × Int × Int) := (Tp.srP hl R V (Pt.uv cut)).bind fun i => cut[i]?
theorem some_here {α β : Type} {f : α → Option β} {b : β} : ∀ {l : List α} {i : Nat} {x : α}, l[i]? = some x → f x = some b → (∀ j y, j < i → l[j]? = some y → f y = none) → l.findSome? f = some b
  | [], i, x, h, _, _ => by simp at h
  | a :: l, 0, x, h, hf, _ => by simp at h; subst h; simp [List.findSome?_cons, hf]
  | a :: l, i + 1, x, h, hf, hn => by
    have h0 := hn 0 a (by omega) (by simp)
    simp only [List.findSome?_cons, h0]
    exact some_here (i := i) (by simpa using h) hf (fun j y hj hy => hn (j + 1) y (by omega) (by simpa using hy))
theorem some_no {α β : Type} {f : α → Option β} {l : List α} (hn : ∀ (j : Nat) (y : α), l[j]? = some y → f y = none) : l.findSome? f = none := by
  rw [List.findSome?_eq_none_iff]
  intro x hx
  obtain ⟨j, hj⟩ := List.mem_iff_getElem?.1 hx
  exact hn j x hj
theorem tryP_int (ps : List (Int × Int)) (x : Nat) : Tp.tryP ps x = Tp.fiP ps ((x : Int) / 16777216) ((x : Int) % 16777216) := by unfold Tp.tryP; simp
theorem nms_is {ws : List Nat} {i : Nat} (h : i < (Sk.nms ws).length) : Sk.isE ((Sk.nms ws)[i]) = true := by
  have := List.getElem_mem h
  unfold Sk.nms at this
  exact (List.mem_filter.1 this).2
set_option maxHeartbeats 16000000 in
set_option maxRecDepth 100000 in
theorem sSearch_ok (hm : GM w vh ve hs es) (hp : GP n L R hs es) {t : Nat} {v : Int} (ht : t < L) (a3 : 0 ≤ v) (a4 : v < (n : Int)) :
    Calls Tryz.prog 8 #[grV n L R vh ve, .int .i64 (t : Int), .int .i64 v] w (SePost (found (Tp.hsOf hs R t) R (lvl n) (Tp.cutL es (Tp.treeL n es t v))) w) := by
  obtain ⟨A1, c1, A2, c2, rfl, rfl⟩ := hm.lit
  unfold grV
  obtain ⟨KG, hKG⟩ : ∃ K, K = w.heap.size := ⟨_, rfl⟩
  obtain ⟨w1, hw1⟩ : ∃ W, W = w.alloc (.cells #[.int .i64 (n : Int), .int .i64 (L : Int), .int .i64 (R : Int), .slice A1 hs.length c1, .slice A2 es.length c2] 28) := ⟨_, rfl⟩
  have HB : Hid (Below w.heap.size w w1) := hid (by rw [hw1]; exact bel_new _ _)
  have DG : Hid (Blk w1 KG 28 [.int .i64 (n : Int), .int .i64 (L : Int), .int .i64 (R : Int), .slice A1 hs.length c1, .slice A2 es.length c2]) := hid (by rw [hw1, hKG]; exact Blk.new _ _ _)
  have GM1 : Hid (GM w1 (.slice A1 hs.length c1) (.slice A2 es.length c2) hs es) := hid (by rw [hw1]; exact hm.new _)
  have HP := hid hp
  have HW := hid hw1
  have HKG := hid hKG
  have hn12 : n ≤ 12 := hp.n2
  have hL4 : L ≤ 4 := hp.l2
  have hR3 : R ≤ 3 := hp.r2
  clear hm hp hw1 hKG
  obtain ⟨cut, hcut⟩ : ∃ c, c = Tp.cutL es (Tp.treeL n es t v) := ⟨_, rfl⟩
  have HIN : Hid (∀ e ∈ cut, 0 ≤ e.1 ∧ e.1 < e.2.1 ∧ e.2.1 ≤ 2000) := hid (by rw [hcut]; exact cut_in HP.out _)
  have HCL : Hid (cut.length ≤ 1000000) := hid (by rw [hcut]; exact cut_len HP.out _)
  have HSC : Hid (∀ {w : World}, GM w (.slice A1 hs.length c1) (.slice A2 es.length c2) hs es → Calls Tryz.prog 22 #[grV n L R (.slice A1 hs.length c1) (.slice A2 es.length c2), .int .i64 (t : Int), .int .i64 v] w (FrsPost w cut)) := hid (fun hm => by rw [hcut]; exact scut_ok hm HP.out (by omega))
  rw [← hcut]
  obtain ⟨ws, hws⟩ : ∃ ws, ws = Tp.wsP (Tp.hsOf hs R t) R (lvl n) (Pt.uv cut) := ⟨_, rfl⟩
  have HDR : Hid (∀ {w : World} {vo : Value}, GM w (.slice A1 hs.length c1) (.slice A2 es.length c2) hs es → Sl w w.heap.size 3 vo cut.length (eds cut) → Calls Tryz.prog 24 #[grV n L R (.slice A1 hs.length c1) (.slice A2 es.length c2), .int .i64 (t : Int), vo] w (DrPost R (lvl n) ws w)) := hid (fun hm ho => by rw [hws]; exact sdrawn_ok hm HP.out ht ho HIN.out HCL.out)
  have HSW : Hid (Sk.Small ws) := hid (by rw [hws]; exact wsP_small _ _ _ HIN.out)
  obtain ⟨r, hr⟩ : ∃ r, r = found (Tp.hsOf hs R t) R (lvl n) cut := ⟨_, rfl⟩
  have HR : Hid (r = ((Sk.nms ws).findSome? (Tp.tryP (Pt.uv cut))).bind fun i => cut[i]?) := hid (by rw [hr, hws]; rfl)
  rw [← hr]
  have HSOK : Hid (SOk (R : Int) ((lvl n : Nat) : Int) (R * lvl n)) := hid ⟨by have := lvl_bd n; have := HP.out.r1; unfold SzOk; omega, by simp⟩
  generalize lvl n = V at *
  have a1 : (0 : Int) ≤ (t : Int) := by omega
  have a2 : (t : Int) < (L : Int) := by omega
  clear hcut hws hr ht
  obtain ⟨w2, hw2⟩ : ∃ W, W = w1.alloc (.cells #[.int .i64 0, .int .i64 0, .int .i64 0] 35) := ⟨_, rfl⟩
  obtain ⟨K6, hK6⟩ : ∃ K, K = KG + 1 := ⟨_, rfl⟩
  have hsz1 : w1.heap.size = KG + 1 := by rw [HW.out, HKG.out]; simp
  have b12 : Below w1.heap.size w1 w2 := by rw [hw2]; exact bel_new _ _
  replace HB := hid (Bl.call HB.out b12)
  replace DG := hid (DG.out.below b12 DG.out.lt)
  replace GM1 := hid (GM1.out.call b12)
  have D6 : Hid (Blk w2 K6 35 [.int .i64 0, .int .i64 0, .int .i64 0]) := hid (by rw [hw2, hK6, ← hsz1]; exact Blk.new _ _ _)
  have LO6 : Hid (w.heap.size ≤ K6) := hid (by rw [hK6, HKG.out]; omega)
  have HW2 := hid hw2
  have HK6 := hid hK6
  clear b12 hw2 hK6 hsz1
  have g0 := DG.out.cell 0
  have g1 := DG.out.cell 1
  have g2 := DG.out.cell 2
  have g3 := DG.out.cell 3
  have g4 := DG.out.cell 4
  go_enter Tryz.func8, Tryz.ntmps8
  go_upto_region 1 with (fail)
  rw [← HW.out, ← HKG.out, ← HK6.out, ← HW2.out]
  go_wp2_with fail
  refine (shas_ok GM1.out HP.out a1 a2 a3 a4).mono ?_; rintro e w3 ⟨rfl, b3⟩
  replace HB := hid (Bl.call HB.out b3)
  replace DG := hid (DG.out.below b3 DG.out.lt)
  replace GM1 := hid (GM1.out.call b3)
  replace D6 := hid (D6.out.below b3 D6.out.lt)
  clear b3 g0 g1 g2 g3 g4
  have g0 := DG.out.cell 0
  have g1 := DG.out.cell 1
  have g2 := DG.out.cell 2
  have g3 := DG.out.cell 3
  have g4 := DG.out.cell 4
  go_wp2_with fail
  refine (HSC.out GM1.out).mono ?_; rintro e w4 ⟨v4, rfl, s4, b4⟩
  replace HB := hid (Bl.call HB.out b4)
  replace DG := hid (DG.out.below b4 DG.out.lt)
  replace GM1 := hid (GM1.out.call b4)
  replace D6 := hid (D6.out.below b4 D6.out.lt)
  have SC := hid s4
  clear b4 s4 g0 g1 g2 g3 g4
  have g0 := DG.out.cell 0
  have g1 := DG.out.cell 1
  have g2 := DG.out.cell 2
  have g3 := DG.out.cell 3
  have g4 := DG.out.cell 4
  go_wp2_with fail
  refine (HDR.out GM1.out SC.out).mono ?_; rintro e w5 ⟨v5, rfl, s5, b5⟩
  replace HB := hid (Bl.call HB.out b5)
  replace D6 := hid (D6.out.below b5 D6.out.lt)
  replace SC := hid (SC.out.call b5)
  have SD := hid s5
  clear b5 s5 g0 g1 g2 g3 g4 DG GM1
  go_wp2_with fail
  refine (snames_ok HSOK.out SD.out HSW.out).mono ?_; rintro e w6 ⟨v6, rfl, s6, b6⟩
  replace HB := hid (Bl.call HB.out b6)
  replace D6 := hid (D6.out.below b6 D6.out.lt)
  replace SC := hid (SC.out.call b6)
  have SN := hid s6
  clear b6 s6 SD
  obtain ⟨k, hk⟩ : ∃ k, k = (Sk.nms ws).length := ⟨_, rfl⟩
  have HK := hid hk
  rw [← hk] at SN
  obtain ⟨An, cn, rfl, hncn, hcmn, _, hxn⟩ := id SN.out
  have hmn : k ≤ 9223372036854775807 := by unfold maxLen at hcmn; omega
  obtain ⟨q, hq⟩ : ∃ q, q = cut.length := ⟨_, rfl⟩
  have HQ := hid hq
  rw [← hq] at SC
  obtain ⟨Ac, cc, rfl, hncc, hcmc, _, hxc⟩ := id SC.out
  have hmc : q ≤ 9223372036854775807 := by unfold maxLen at hcmc; omega
  have HXN := hid hxn
  have HXC := hid hxc
  clear hk hq hncn hcmn hxn hncc hcmc hxc
  go_wp2_with fail
  go_loopw [32] (fun iv wr => ∃ i : Nat, iv = .int .i64 (i : Int) ∧ i ≤ k ∧ Hid (∀ j y, j < i → (Sk.nms ws)[j]? = some y → Tp.tryP (Pt.uv cut) y = none) ∧ Hid (Below w6.heap.size w6 wr)) (fun iv _ => k - (intOf iv).toNat)
  case atStart => exact ⟨0, rfl, Nat.zero_le _, hid (fun j y hj => absurd hj (Nat.not_lt_zero _)), hid (Below.refl _ _)⟩
  case round =>
    obtain ⟨i, rfl, hi, HNO, HBr⟩ := hrel
    by_cases hlt : i < k
    · have j0 : (i : Int) < (k : Int) := by omega
      have hil : i < (Sk.nms ws).length := by rw [← HK.out]; exact hlt
      obtain ⟨b, o, rfl, hbb, hc⟩ := HXN.out (by omega)
      have c0 := (HBr.out.cell (p := ⟨b, o + i, none⟩) hbb).trans (us_cell hc hil)
      have hgd : (Sk.nms ws).getD i 0 = (Sk.nms ws)[i] := by simp [List.getD, hil]
      rw [hgd] at c0
      have HE := hid (nms_is hil)
      have hxs : (Sk.nms ws)[i] < 18446744073709551616 := HSW.out _ (List.mem_filter.1 (show (Sk.nms ws)[i] ∈ List.filter Sk.isE ws from List.getElem_mem hil)).1
      have HAT := hid (List.getElem?_eq_getElem hil)
      generalize (Sk.nms ws)[i] = x at *
      have HXS := hid hxs
      clear hc hgd hil hxs
      have SC2 := hid (SC.out.call HBr.out)
      go_wp2_with fail
      refine (ends_yes HXS.out HE.out _).mono ?_; rintro e w' ⟨rfl, rfl⟩
      have HTR := hid (tryP_int (Pt.uv cut) x)
      cases hf : Tp.fiP (Pt.uv cut) ((x : Int) / 16777216) ((x : Int) % 16777216) with
      | none =>
        have HF := hid hf
        rw [hf] at HTR
        clear hf c0
        go_wp2_with fail
        refine (nfind_no SC2.out HF.out).mono ?_; rintro e w7 ⟨rfl, b7⟩
        have HB7 := hid (Bl.call HBr.out b7)
        clear b7
        go_wp2_with fail
        go_roundw
        case rel => exact ⟨i + 1, by go_num, by omega, hid (fun j y hj hy => by
            rcases Nat.lt_or_ge j i with h | h
            · exact HNO.out j y h hy
            · obtain rfl : j = i := by omega
              rw [HAT.out] at hy; injection hy with hy; subst hy; exact HTR.out), HB7⟩
        case measure => simp [intOf]; omega
      | some p =>
        have HF := hid hf
        rw [hf] at HTR
        have hpl : p < cut.length := by
          obtain ⟨z, hz, _⟩ := Tp.fiP_some hf
          have := (List.getElem?_eq_some_iff.1 hz).1
          simpa [Pt.uv] using this
        have HRR : Hid (r = some cut[p]) := hid (by
          rw [HR.out, some_here HAT.out HTR.out HNO.out]
          simp [hpl])
        have hpq : p < q := by rw [HQ.out]; exact hpl
        have hpq2 : (p : Int) < (q : Int) := by omega
        obtain ⟨bc, oc, rfl, hbc, hcc⟩ := HXC.out (by omega)
        obtain ⟨p0, p1, p2⟩ := eds_cell hcc hpl
        clear hf c0
        go_wp2_with fail
        refine (nfind_is SC2.out HF.out).mono ?_; rintro e w7 ⟨rfl, b7⟩
        have HB7 := hid (Bl.call HBr.out b7)
        clear b7
        replace D6 := hid (D6.out.below HB7.out D6.out.lt)
        have q0 := (HB7.out.cell (p := ⟨bc, oc + p * 3, none⟩) hbc).trans p0
        have q1 := (HB7.out.cell (p := ⟨bc, oc + p * 3 + 1, none⟩) hbc).trans p1
        have q2 := (HB7.out.cell (p := ⟨bc, oc + p * 3 + 2, none⟩) hbc).trans p2
        generalize cut[p] = ed at q0 q1 q2 HRR p0 p1 p2
        obtain ⟨x0, y0, t0⟩ := ed
        dsimp only at q0 q1 q2
        have f0 := D6.out.frozen 0
        have f1 := D6.out.frozen 1
        have f2 := D6.out.frozen 2
        have k0 := D6.out.cell 0
        have k1 := D6.out.cell 1
        have k2 := D6.out.cell 2
        obtain ⟨w8, hw⟩ : ∃ z, z = ((w7.setCell ⟨K6, 0, none⟩ (.int .i64 x0)).setCell ⟨K6, 1, none⟩ (.int .i64 y0)).setCell ⟨K6, 2, none⟩ (.int .i64 t0) := ⟨_, rfl⟩
        have D8 : Hid (Blk w8 K6 35 [.int .i64 x0, .int .i64 y0, .int .i64 t0]) := hid (by rw [hw]; exact ((D6.out.put 0 (.int .i64 x0)).put 1 (.int .i64 y0)).put 2 (.int .i64 t0))
        have HB8 : Hid (Below w.heap.size w w8) := hid (by rw [hw]; exact (((Bl.call HB.out HB7.out).setCell (p := ⟨K6, 0, none⟩) LO6.out _).setCell (p := ⟨K6, 1, none⟩) LO6.out _).setCell (p := ⟨K6, 2, none⟩) LO6.out _)
        have HW8 := hid hw
        clear hw p0 p1 p2 hcc hpl
        go_wp2
        rw [← HW8.out]
        clear f0 f1 f2 k0 k1 k2 q0 q1 q2
        have e0 := D8.out.cell 0
        have e1 := D8.out.cell 1
        have e2 := D8.out.cell 2
        exact bodyPost_ret (v := .tuple #[.agg #[.int .i64 x0, .int .i64 y0, .int .i64 t0], .bool true]) (by simp [results, Tryz.results8, go_sem, e0, e1, e2]) rfl ⟨by rw [HRR.out]; rfl, HB8.out⟩
    · have j0 : ¬ (i : Int) < (k : Int) := by omega
      obtain rfl : i = k := by omega
      have HRR : Hid (r = none) := hid (by
        rw [HR.out, some_no (fun j y hy => HNO.out j y (by rw [HK.out]; exact (List.getElem?_eq_some_iff.1 hy).1) hy)]; rfl)
      replace D6 := hid (D6.out.below HBr.out D6.out.lt)
      have f0 := D6.out.frozen 0
      have f1 := D6.out.frozen 1
      have f2 := D6.out.frozen 2
      have k0 := D6.out.cell 0
      have k1 := D6.out.cell 1
      have k2 := D6.out.cell 2
      obtain ⟨w8, hw⟩ : ∃ z, z = ((wr.setCell ⟨K6, 0, none⟩ (.int .i64 0)).setCell ⟨K6, 1, none⟩ (.int .i64 0)).setCell ⟨K6, 2, none⟩ (.int .i64 0) := ⟨_, rfl⟩
      have D8 : Hid (Blk w8 K6 35 [.int .i64 0, .int .i64 0, .int .i64 0]) := hid (by rw [hw]; exact ((D6.out.put 0 (.int .i64 0)).put 1 (.int .i64 0)).put 2 (.int .i64 0))
      have HB8 : Hid (Below w.heap.size w w8) := hid (by rw [hw]; exact (((Bl.call HB.out HBr.out).setCell (p := ⟨K6, 0, none⟩) LO6.out _).setCell (p := ⟨K6, 1, none⟩) LO6.out _).setCell (p := ⟨K6, 2, none⟩) LO6.out _)
      have HW8 := hid hw
      clear hw
      go_wp2
      rw [← HW8.out]
      clear f0 f1 f2 k0 k1 k2
      have e0 := D8.out.cell 0
      have e1 := D8.out.cell 1
      have e2 := D8.out.cell 2
      exact bodyPost_ret (v := .tuple #[.agg #[.int .i64 0, .int .i64 0, .int .i64 0], .bool false]) (by simp [results, Tryz.results8, go_sem, e0, e1, e2]) rfl ⟨by rw [HRR.out]; rfl, HB8.out⟩
end
theorem tvertex_yes {n v : Int} (h1 : 0 ≤ v) (h2 : v < n) (w : World) : Calls Tryz.prog 54 #[.int .i64 n, .int .i64 v] w fun e w' => e = .returned (.bool true) ∧ w = w' := by
  go_enter Tryz.func54, Tryz.ntmps54
  go_wp2
  go_ret
  exact ⟨rfl, rfl⟩
section
variable {ops : Array Oper} {rest : List Oper} {o : Oper} {a : Act} {Q : Exit → Act → World → Prop} {w : World}
theorem wl_run2 (hw : Region.wanted o (yielded ops a.tmps) = true) (s x : Operand) {t tn : TypeId} (hop : o.op = .call { callee := .builtin .append, args := #[s, x], argTypes := #[t, tn] }) {v1 v2 v' : Value} {w' : World} (hs : a.eval s = v1) (hx : a.eval x = v2)
    (hrun : (Builtin.append_ #[t, tn] o.type #[v1, v2]).run Tryz.prog w = .ok v' w') (h : wpList Tryz.prog ops Q rest (a.put o.dst v') w') : wpList Tryz.prog ops Q (o :: rest) a w := by
  refine BigFrame.wpList_want hw fun K hK => ?_
  unfold Oper.wp execOp
  simp only [hop, resolve, invoke, builtin, Sem.run_bind, Sem.run_pure, Result.andThen_ok, List.map_toArray, List.map_cons, List.map_nil, hs, hx, hrun]
  exact hK _ _ h
end
def OwnPost (k : Nat) (l : List (Int × Int × Int)) (w : World) (e : Ending) (w' : World) : Prop := ∃ v, e = .returned v ∧ w'.ownsRow w.heap.size 35 3 v k (eds l) ∧ Below w.heap.size w w'
set_option maxRecDepth 100000 in
set_option maxHeartbeats 4000000 in
theorem egrow_any (k : Nat) (hk : k ≤ 1000000) (w : World) : Calls Tryz.prog 80 #[.slice none 0 0, .int .i64 (k : Int)] w (OwnPost 0 [] w) := by
  have h0 : ¬ (k : Int) < 0 := by omega
  by_cases hk0 : k = 0
  · subst hk0
    go_enter Tryz.func80, Tryz.ntmps80
    go_wp2
    go_ret
    exact ⟨_, rfl, World.ownsRow_nil _ _ _ _, Below.refl _ _⟩
  · obtain ⟨hu, ⟨i, hi, hz, hsz, hby⟩, hzs, hs0, h0b⟩ := Tedg
    have hki : (0 : Int) < (k : Int) := by omega
    have hrun := fun ty => Lib.run_append_grow_zeros (P := Tryz.prog) w 26 3 ty 35 i _ .i64 .i64 hu Tryz.underlying3 hi hz none 0 0 [] (by simp [Builtin.firstCells]) k (by omega) (by rw [hsz]; omega) (by omega) (by omega) (by rw [hby]; omega)
      (by rw [hby]; unfold Builtin.nextslicecap; (try split) <;> (try split) <;> omega)
    obtain ⟨cap, hcap⟩ : ∃ c, c = grownCap w (0 + k) 0 35 := ⟨_, rfl⟩
    have h1 : k ≤ cap := by have := grownCap_ge w (0 + k) 0 35; omega
    have h2 : cap ≤ maxLen := by rw [hcap]; exact grownCap_le_maxLen _ _ _ _ (by unfold maxLen; omega)
    have h3 : cap ≤ 9223372036854775807 := by unfold maxLen at h2; omega
    simp only [← hcap] at hrun
    obtain ⟨cs, hcs⟩ : ∃ cs : Array Value, cs = ([] : List Value).toArray ++ Builtin.zeroCells (Value.agg #[Value.int .i64 0, Value.int .i64 0, Value.int .i64 0]).cells k ++ Builtin.zeroCells (Value.agg #[Value.int .i64 0, Value.int .i64 0, Value.int .i64 0]).cells (cap - (0 + k)) := ⟨_, rfl⟩
    have hsz : cs.size = cap * 3 := by rw [hcs]; simp [size_zeroCells, Value.cells]; omega
    simp only [← hcs] at hrun
    rw [show 0 + k = k by omega] at hrun
    have HO : Hid ((w.drew.alloc (.cells cs 35)).ownsRow w.heap.size 35 3 (.slice (some ⟨w.heap.size, 0, none⟩) 0 cap) 0 (eds [])) := hid (by
      refine ⟨by simp [eds], .inr ⟨w.heap.size, cap, cs, rfl, Nat.le_refl _, ?_, Nat.zero_le _, h2, hsz, by simp [eds]⟩⟩
      have := Blk.new w.drew 35 cs.toList
      unfold Blk at this
      simpa using this)
    have HB : Hid (Below w.heap.size w (w.drew.alloc (.cells cs 35))) := hid (Bl.new (Bl.qt (Below.refl _ _) (qt_drew _)) _)
    clear hcap hcs hsz
    go_enter Tryz.func80, Tryz.ntmps80
    go_wp2_with (at_builtin; (refine wl_run2 rfl _ _ rfl rfl rfl (hrun _) ?_))
    go_wp2
    go_ret
    exact ⟨_, rfl, HO.out, HB.out⟩
def PartsAt (w : World) (vs : List Value) (ls : List (List (Int × Int × Int))) : Prop := ∀ i, (h : i < ls.length) → ∃ A c, vs[i]? = some (.slice A (ls[i]).length c) ∧ Sl w w.heap.size 3 (.slice A (ls[i]).length c) (ls[i]).length (eds ls[i])
theorem flat_next {ls : List (List (Int × Int × Int))} {i : Nat} (h : i < ls.length) : (ls.take (i + 1)).flatten = (ls.take i).flatten ++ ls[i] := by
  rw [List.take_succ_eq_append_getElem h, List.flatten_append]; simp
theorem flat_le (ls : List (List (Int × Int × Int))) (i : Nat) : (ls.take i).flatten.length ≤ ls.flatten.length := by
  have : ls.flatten = (ls.take i).flatten ++ (ls.drop i).flatten := by rw [← List.flatten_append, List.take_append_drop]
  rw [this, List.length_append]; omega
set_option maxRecDepth 100000 in
set_option maxHeartbeats 8000000 in
theorem concat_any {w : World} {K k : Nat} {vs : List Value} {ls : List (List (Int × Int × Int))} (hD : Blk w K 26 vs) (hl : ls.length = k) (hP : PartsAt w vs ls) (ht : ls.flatten.length ≤ 100000) (hk : k ≤ 10) {tot : Nat} (htot : ls.flatten.length = tot) :
    Calls Tryz.prog 55 #[.slice (some ⟨K, 0, none⟩) k k] w (OwnPost tot ls.flatten w) := by
  have HTOT := hid htot
  clear htot
  have HD := hid hD
  have HL := hid hl
  have HP := hid hP
  have HT := hid ht
  clear hD hl hP ht
  go_enter Tryz.func55, Tryz.ntmps55
  go_wp2_with fail
  go_loopw [3, 11] (fun sv iv wr => ∃ (i q : Nat), sv = .int .i64 (q : Int) ∧ iv = .int .i64 (i : Int) ∧ i ≤ k ∧ q ≤ 100000 ∧ Hid (q = (ls.take i).flatten.length) ∧ w = wr) (fun _ iv _ => k - (intOf iv).toNat)
  case atStart => exact ⟨0, 0, rfl, rfl, Nat.zero_le _, Nat.zero_le _, hid rfl, by trivial⟩
  case round =>
    obtain ⟨i, q, rfl, rfl, hi, hq, HQ, rfl⟩ := hrel
    by_cases hlt : i < k
    · have j0 : (i : Int) < (k : Int) := by omega
      have hil : i < ls.length := by rw [HL.out]; exact hlt
      obtain ⟨A, c, hv, hsl⟩ := HP.out i hil
      have c0 : w.cell? ⟨K, i, none⟩ = some (.slice A (ls[i]).length c) := by rw [HD.out.cell]; exact hv
      have hsum : q + (ls[i]).length = (ls.take (i + 1)).flatten.length := by rw [flat_next hil, List.length_append, ← HQ.out]
      have hle := flat_le ls (i + 1)
      have hle2 := HT.out
      have HS := hid hsum
      generalize (ls[i]).length = z at *
      have hz : q + z ≤ 100000 := by omega
      have hz2 : ((q : Int) + (z : Int)) = ((q + z : Nat) : Int) := by simp
      have hz3 : ¬ ((q : Int) + (z : Int) < 0) := by omega
      clear hv hsl hsum hle hle2 hil hz2
      go_wp2_with fail
      go_roundw
      case rel => exact ⟨i + 1, q + z, by go_num, by go_num, by omega, hz, HS, by trivial⟩
      case measure => simp [intOf]; omega
    · have j0 : ¬ (i : Int) < (k : Int) := by omega
      obtain rfl : i = k := by omega
      go_wp2_with fail
      refine (egrow_any q (by omega) _).mono ?_; rintro e w2 ⟨v2, rfl, o2, b2⟩
      have HO2 := hid o2
      have HB2 := hid b2
      clear o2 b2
      go_wp2_with fail
      go_loopw [6, 27] (fun ov iv wr => ∃ (j p : Nat), iv = .int .i64 (j : Int) ∧ j ≤ i ∧ p ≤ 100000 ∧ Hid (p = (ls.take j).flatten.length) ∧ Hid (wr.ownsRow w.heap.size 35 3 ov p (eds (ls.take j).flatten)) ∧ Hid (Below w.heap.size w wr)) (fun _ iv _ => i - (intOf iv).toNat)
      case atStart => exact ⟨0, 0, rfl, Nat.zero_le _, Nat.zero_le _, hid rfl, HO2, HB2⟩
      case round =>
        obtain ⟨j, p, rfl, hj, hp, HPQ, HO, HB⟩ := hrel
        by_cases hjt : j < i
        · have j1 : (j : Int) < (i : Int) := by omega
          have hil : j < ls.length := by rw [HL.out]; exact hjt
          obtain ⟨A, c, hv, hsl⟩ := HP.out j hil
          have c0 : wr.cell? ⟨K, j, none⟩ = some (.slice A (ls[j]).length c) := by
            have := HD.out.below HB.out HD.out.lt
            rw [this.cell]; exact hv
          have HSL := hid (hsl.call HB.out)
          have hsum : p + (ls[j]).length = (ls.take (j + 1)).flatten.length := by rw [flat_next hil, List.length_append, ← HPQ.out]
          have hfl := flat_next hil
          have hle := flat_le ls (j + 1)
          have hle2 := HT.out
          have hz : p + (ls[j]).length ≤ 100000 := by omega
          have HS := hid hsum
          have HFL := hid hfl
          have HSZ := hid HB.out.size
          generalize ls[j] = lj at *
          have hby : (p + lj.length) * 24 ≤ 140737488355328 := by omega
          clear hv hsl hsum hle hle2 hil hfl
          go_wp2_with (at_builtin; (refine wl_app rfl _ _ Tedg rfl rfl HO.out rfl HSL.out (eds_one _) hby HSZ.out ?_))
          intro v9 w9 o9 b9
          have O9 : Hid (w9.ownsRow w.heap.size 35 3 v9 (p + lj.length) (eds (ls.take (j + 1)).flatten)) := hid (by rw [HFL.out, ← eds_app]; exact o9)
          have B9 := hid (HB.out.trans b9)
          clear o9 b9
          go_wp2_with fail
          go_roundw
          case rel => exact ⟨j + 1, p + lj.length, by go_num, by omega, hz, HS, O9, B9⟩
          case measure => simp [intOf]; omega
        · have j1 : ¬ (j : Int) < (i : Int) := by omega
          obtain rfl : j = i := by omega
          have HE : Hid (ls.take j = ls) := hid (List.take_of_length_le (by rw [HL.out]; exact Nat.le_refl _))
          go_wp2
          go_ret
          have HH : Hid (wr.ownsRow w.heap.size 35 3 u6 tot (eds ls.flatten)) := hid (by rw [← HTOT.out]; have h1 := HO.out; have h2 := HPQ.out; rw [HE.out] at h1 h2; subst h2; exact h1)
          refine ⟨u6, rfl, ?_, HB.out⟩
          exact HH.out
theorem eclone_any (v : Value) (n B : Nat) (p : List (Int × Int × Int)) (w : World) (hs : Sl w B 3 v n (eds p)) (hB : B ≤ w.heap.size) (hr : n ≤ 1000000) :
    Calls Tryz.prog 105 #[v] w (OwnPost n p w) := by
  have hs0 := hid hs
  obtain ⟨A, c, rfl, hnc, hcm, hl, hx⟩ := hs
  have heq := fun w => Lib.run_eql_slice_nil (P := Tryz.prog) w 26 35 A n c 0 0 Tryz.underlying26
  cases A with
  | none =>
    have hn : n = 0 := by
      rcases Nat.eq_zero_or_pos n with h | h
      · exact h
      · obtain ⟨_, _, h', _⟩ := hx h; cases h'
    subst hn
    have hp : p = [] := List.eq_nil_of_length_eq_zero (by have := hl; rw [len_eds] at this; omega)
    subst hp
    go_enter Tryz.func105, Tryz.ntmps105
    go_wp2
    go_ret
    exact ⟨_, rfl, World.ownsRow_nil _ _ _ _, Below.refl _ _⟩
  | some ad =>
    clear hx
    go_enter Tryz.func105, Tryz.ntmps105
    go_wp2_with (at_builtin; refine wl_app rfl _ _ Tedg rfl rfl (own_empty w _ _ _ (Nat.le_refl _)) rfl (hs0.out.alloc hB _) (eds_one _) (by omega) (by simp) ?_)
    intro v' w' hown hbel
    go_wp2
    go_ret
    exact ⟨_, rfl, by simpa using hown, ((Below.refl _ _).alloc (Nat.le_refl _) _).trans hbel⟩
def OwnTup (l : List (Int × Int × Int)) (w : World) (e : Ending) (w' : World) : Prop := ∃ v, e = .returned (.tuple #[v, .int .i64 0]) ∧ w'.ownsRow w.heap.size 35 3 v l.length (eds l) ∧ Below w.heap.size w w'
theorem eds_set (l : List (Int × Int × Int)) (i : Nat) (t : Int) : (eds l).set (i * 3 + 2) (.int .i64 t) = eds (l.modify i (fun e => (e.1, e.2.1, t))) := by
  induction l generalizing i with
  | nil => simp [eds]
  | cons e l ih =>
    cases i with
    | zero => simp [eds]
    | succ i =>
      have := ih i
      simp only [eds, List.flatMap_cons, List.modify_succ_cons] at this ⊢
      rw [← this, show (i + 1) * 3 + 2 = (i * 3 + 2) + 3 by omega]
      rfl
theorem own_tier {w : World} {base g n c : Nat} {l : List (Int × Int × Int)} (h : w.ownsRow base 35 3 (.slice (some ⟨g, 0, none⟩) n c) n (eds l)) (i : Nat) (t : Int) :
    (w.setCell ⟨g, i * 3 + 2, none⟩ (.int .i64 t)).ownsRow base 35 3 (.slice (some ⟨g, 0, none⟩) n c) n (eds (l.modify i (fun e => (e.1, e.2.1, t)))) := by
  have := (h.stored (i * 3 + 2) (.int .i64 t)).1
  rwa [eds_set] at this
set_option maxRecDepth 100000 in
set_option maxHeartbeats 8000000 in
theorem tset_ok {n : Int} {v0 : Value} {m : Nat} {l : List (Int × Int × Int)} {u v t : Int} {w : World} (hs : Sl w w.heap.size 3 v0 m (eds l)) (ht : TabR n l) (u1 : 0 ≤ u) (u2 : u < n) (v1 : 0 ≤ v) (v2 : v < n) (t1 : 0 ≤ t) (t2 : t ≤ 16) {i : Nat} (hf : Tp.fiP (Pt.uv l) u v = some i) (hm : m ≤ 1000000) :
    Calls Tryz.prog 83 #[.int .i64 n, v0, .int .i64 u, .int .i64 v, .int .i64 t] w (OwnTup (Tp.setT l u v t) w) := by
  have hl : l.length = m := by have := hs.len; rw [len_eds] at this; omega
  have hil : i < m := by
    obtain ⟨x, hx, _⟩ := Tp.fiP_some hf
    have := (List.getElem?_eq_some_iff.1 hx).1
    rw [← hl]; simpa [Pt.uv] using this
  have HSET : Hid (Tp.setT l u v t = l.modify i (fun e => (e.1, e.2.1, t))) := hid (by unfold Tp.setT; rw [hf])
  have HS := hid hs
  have HT := hid ht
  have HF := hid hf
  have HL := hid hl
  have HM := hid hm
  have j0 : (i : Int) < (m : Int) := by omega
  clear hs ht hf hl hm
  go_enter Tryz.func83, Tryz.ntmps83
  go_wp2_with fail
  refine (tright_is HS.out true ⟨fun _ => rfl, fun _ => HT.out⟩).mono ?_; rintro e w2 ⟨rfl, b2⟩
  have HB2 := hid b2
  have HS2 := hid (HS.out.call b2)
  clear b2
  go_wp2_with fail
  refine (tvertex_yes u1 u2 _).mono ?_; rintro e w' ⟨rfl, rfl⟩
  go_wp2_with fail
  refine (tvertex_yes v1 v2 _).mono ?_; rintro e w' ⟨rfl, rfl⟩
  go_wp2_with fail
  refine (tiered_is true ⟨fun _ => rfl, fun _ => ⟨t1, t2⟩⟩ _).mono ?_; rintro e w' ⟨rfl, rfl⟩
  go_wp2_with fail
  refine (nfind_is HS2.out HF.out).mono ?_; rintro e w3 ⟨rfl, b3⟩
  have HB3 := hid (Bl.call HB2.out b3)
  have HS3 := hid (HS2.out.call b3)
  clear b3
  go_wp2_with fail
  refine (eclone_any _ _ _ _ _ HS3.out (Nat.le_refl _) HM.out).mono ?_; rintro e w4 ⟨v4, rfl, o4, b4⟩
  have HB4 := hid (Bl.call HB3.out b4)
  obtain ⟨g, c, rfl, hg1, hg2⟩ := own_form o4 (by omega)
  have HO4 := hid o4
  have HG : Hid (w.heap.size ≤ g) := hid (by have := HB3.out.size; omega)
  have hc0 : w4.cell? ⟨g, i * 3 + 2, none⟩ = some (.int .i64 ((l[i]'(by rw [HL.out]; exact hil)).2.2)) := by
    have e := eds_at l i (by rw [HL.out]; exact hil)
    have h := o4.cellAt (i * 3 + 2) (by omega)
    rw [h]; exact e.2.2
  have hfz := o4.frozenAt (i * 3 + 2)
  have HOS := hid (own_more (own_tier o4 i t) HB3.out.size)
  have HBS : Hid (Below w.heap.size w (w4.setCell ⟨g, i * 3 + 2, none⟩ (.int .i64 t))) := hid (HB4.out.setCell (p := ⟨g, i * 3 + 2, none⟩) HG.out _)
  clear o4 b4 hg1 hg2
  go_wp2
  go_ret2
  exact ⟨_, rfl, by rw [HSET.out, List.length_modify, HL.out]; exact HOS.out, HBS.out⟩
def GrPost (d : Int × Int × Int) (w : World) (e : Ending) (w' : World) : Prop := e = .returned (.tuple #[.agg #[.int .i64 d.1, .int .i64 d.2.1, .int .i64 d.2.2], .bool true]) ∧ Below w.heap.size w w'
theorem greatest_nil (w : World) : Calls Tryz.prog 82 #[.slice none 0 0] w fun e w' => e = .returned (.tuple #[.agg #[.int .i64 0, .int .i64 0, .int .i64 0], .bool false]) ∧ Below w.heap.size w w' := by
  have D8 : Blk (w.alloc (.cells #[.int .i64 0, .int .i64 0, .int .i64 0] 35)) w.heap.size 35 [.int .i64 0, .int .i64 0, .int .i64 0] := Blk.new _ _ _
  have HB := hid (bel_new w (.cells #[.int .i64 0, .int .i64 0, .int .i64 0] 35))
  go_enter Tryz.func82, Tryz.ntmps82
  go_wp2
  have e0 := D8.cell 0
  have e1 := D8.cell 1
  have e2 := D8.cell 2
  exact bodyPost_ret (v := .tuple #[.agg #[.int .i64 0, .int .i64 0, .int .i64 0], .bool false]) (by simp [results, Tryz.results82, go_sem, e0, e1, e2]) rfl ⟨rfl, HB.out⟩
theorem gt_cases (d e : Int × Int × Int) : (Tp.gtB d e = true ∧ d.2.2 < e.2.2) ∨ (e.2.2 = d.2.2 ∧ Tp.gtB d e = lessE d e) ∨ (Tp.gtB d e = false ∧ e.2.2 < d.2.2) := by
  rcases Int.lt_trichotomy d.2.2 e.2.2 with h | h | h
  · exact .inl ⟨by unfold Tp.gtB; simp [h], h⟩
  · refine .inr (.inl ⟨h.symm, ?_⟩)
    unfold Tp.gtB Tp.lsB lessE
    simp [h]
  · refine .inr (.inr ⟨?_, h⟩)
    unfold Tp.gtB
    have h1 : ¬ d.2.2 < e.2.2 := by omega
    have h2 : ¬ e.2.2 = d.2.2 := by omega
    simp [h1, h2]
theorem eds_drop1 (l : List (Int × Int × Int)) : (eds l).drop (1 * 3) = eds l.tail := by
  cases l with
  | nil => simp [eds]
  | cons a l => simp [eds]
set_option maxRecDepth 100000 in
set_option maxHeartbeats 16000000 in
theorem greatest_any {v0 : Value} {m : Nat} {a : Int × Int × Int} {l : List (Int × Int × Int)} {w : World} (hs : Sl w w.heap.size 3 v0 m (eds (a :: l))) :
    Calls Tryz.prog 82 #[v0] w (GrPost (l.foldl Tp.gre1 a) w) := by
  have hl : (a :: l).length = m := by have := hs.len; rw [len_eds] at this; omega
  have hl2 : m = l.length + 1 := by simpa using hl.symm
  have hql' : l.length = m - 1 := by omega
  obtain ⟨A, c, rfl, hnc, hcm, hll, hx⟩ := hs
  have hm : m ≤ 9223372036854775807 := by unfold maxLen at hcm; omega
  obtain ⟨b0, o0, rfl, hb0, hc0⟩ := hx (by omega)
  have hsl : ∀ w : World, (Instr.slice 26 (.slice (some ⟨b0, o0, none⟩) m c) (some (.int .i64 1)) none none).run Tryz.prog w = .ok (.slice (cutA (some ⟨b0, o0, none⟩) c 1 3) (m - 1) (c - 1)) w := run_drop_of Tedg (some ⟨b0, o0, none⟩) m c 1 (by omega)
  have HSL : Hid (Sl w w.heap.size 3 (.slice (cutA (some ⟨b0, o0, none⟩) c 1 3) (m - 1) (c - 1)) (m - 1) (eds l)) := hid (by
    have h : Sl w w.heap.size 3 (.slice (some ⟨b0, o0, none⟩) m c) m (eds (a :: l)) := ⟨_, _, rfl, hnc, hcm, hll, hx⟩
    have := h.drop (k := 1) (by omega)
    rw [eds_drop1] at this; exact this)
  obtain ⟨p0, p1, p2⟩ := eds_cell hc0 (k := 0) (by simp)
  simp only [Nat.zero_mul, Nat.add_zero, List.getElem_cons_zero] at p0 p1 p2
  obtain ⟨A', hA'⟩ : ∃ A', A' = cutA (some ⟨b0, o0, none⟩) c 1 3 := ⟨_, rfl⟩
  rw [← hA'] at HSL
  simp only [← hA'] at hsl
  obtain ⟨q, hq⟩ : ∃ q, q = m - 1 := ⟨_, rfl⟩
  rw [← hq] at HSL
  simp only [← hq] at hsl
  obtain ⟨x0, y0, t0⟩ := a
  dsimp only at p0 p1 p2
  have hql : Hid (l.length = q) := hid (by rw [hq]; exact hql')
  have hm1 : (0 : Int) < (m : Int) := by omega
  have hm2 : (1 : Int) ≤ (m : Int) := by omega
  have hm0 : ((m : Int) == 0) = false := by simp; omega
  have hqm : q ≤ 9223372036854775807 := by omega
  clear hx hll hcm hnc hc0 hA' hl hl2 hq hql'
  -- the two variables
  obtain ⟨w1, hw1⟩ : ∃ W, W = w.alloc (.cells #[.int .i64 0, .int .i64 0, .int .i64 0] 35) := ⟨_, rfl⟩
  obtain ⟨w2, hw2⟩ : ∃ W, W = w1.alloc (.cells #[.int .i64 x0, .int .i64 y0, .int .i64 t0] 35) := ⟨_, rfl⟩
  obtain ⟨K2, hK2⟩ : ∃ K, K = w.heap.size := ⟨_, rfl⟩
  obtain ⟨K4, hK4⟩ : ∃ K, K = K2 + 1 := ⟨_, rfl⟩
  have hz1 : w1.heap.size = K2 + 1 := by rw [hw1, hK2]; simp
  have D2 : Hid (Blk w2 K2 35 [.int .i64 0, .int .i64 0, .int .i64 0]) := hid (by rw [hw2, hw1, hK2]; exact (Blk.new _ _ _).alloc _)
  have D4 : Hid (Blk w2 K4 35 [.int .i64 x0, .int .i64 y0, .int .i64 t0]) := hid (by rw [hw2, hK4, ← hz1]; exact Blk.new _ _ _)
  have HB : Hid (Below w.heap.size w w2) := hid (by rw [hw2, hw1]; exact Bl.new (bel_new _ _) _)
  have NE : Hid (K2 ≠ K4) := hid (by omega)
  have LO2 : Hid (w.heap.size ≤ K2) := hid (by omega)
  have LO4 : Hid (w.heap.size ≤ K4) := hid (by omega)
  have r0 := cell_later (bel_new w (.cells #[.int .i64 0, .int .i64 0, .int .i64 0] 35)) p0
  have r1 := cell_later (bel_new w (.cells #[.int .i64 0, .int .i64 0, .int .i64 0] 35)) p1
  have r2 := cell_later (bel_new w (.cells #[.int .i64 0, .int .i64 0, .int .i64 0] 35)) p2
  have HW1 := hid hw1
  have HW2 := hid hw2
  have HK2 := hid hK2
  have HK4 := hid hK4
  clear hw1 hw2 hK2 hK4 hz1 p0 p1 p2
  go_enter Tryz.func82, Tryz.ntmps82
  go_wp2_with fail
  rw [← HW1.out, ← HW2.out, ← HK2.out, ← HK4.out]
  clear r0 r1 r2 hsl
  go_loopw [17] (fun iv wr => ∃ (i : Nat) (x y t : Int), iv = .int .i64 (i : Int) ∧ i ≤ q ∧ Hid ((x, y, t) = (l.take i).foldl Tp.gre1 (x0, y0, t0)) ∧ Hid (Blk wr K4 35 [.int .i64 x, .int .i64 y, .int .i64 t]) ∧ Hid (Blk wr K2 35 [.int .i64 0, .int .i64 0, .int .i64 0]) ∧ Hid (Below w.heap.size w wr)) (fun iv _ => q - (intOf iv).toNat)
  case atStart => exact ⟨0, x0, y0, t0, rfl, Nat.zero_le _, hid rfl, D4, D2, HB⟩
  case round =>
    clear D4 D2 HB
    obtain ⟨i, x, y, t, rfl, hi, HG, D4, D2, HB⟩ := hrel
    by_cases hlt : i < q
    · have j0 : (i : Int) < (q : Int) := by omega
      have hil : i < l.length := by rw [hql.out]; exact hlt
      obtain ⟨A2, c2, e1, _, _, _, hx⟩ := HSL.out
      injection e1 with e1 e2 e3
      subst e1
      obtain ⟨b6, o6, rfl, hb6, hc6⟩ := hx (by omega)
      obtain ⟨p0, p1, p2⟩ := eds_cell hc6 hil
      have q0 := (HB.out.cell (p := ⟨b6, o6 + i * 3, none⟩) hb6).trans p0
      have q1 := (HB.out.cell (p := ⟨b6, o6 + i * 3 + 1, none⟩) hb6).trans p1
      have q2 := (HB.out.cell (p := ⟨b6, o6 + i * 3 + 2, none⟩) hb6).trans p2
      have HNX : Hid ((l.take (i + 1)).foldl Tp.gre1 (x0, y0, t0) = Tp.gre1 (x, y, t) l[i]) := hid (by rw [List.take_succ_eq_append_getElem hil, List.foldl_append, ← HG.out]; rfl)
      obtain ⟨e, he⟩ : ∃ e, e = l[i] := ⟨_, rfl⟩
      rw [← he] at q0 q1 q2 HNX
      obtain ⟨x', y', t'⟩ := e
      dsimp only at q0 q1 q2
      clear he p0 p1 p2 hc6 hx hil e2 e3
      obtain ⟨wn, hwn⟩ : ∃ W, W = wr.alloc (.cells #[.int .i64 x', .int .i64 y', .int .i64 t'] 35) := ⟨_, rfl⟩
      obtain ⟨KN, hKN⟩ : ∃ K, K = wr.heap.size := ⟨_, rfl⟩
      have DN : Hid (Blk wn KN 35 [.int .i64 x', .int .i64 y', .int .i64 t']) := hid (by rw [hwn, hKN]; exact Blk.new _ _ _)
      have N4 : Hid (K4 ≠ KN) := hid (by have := D4.out.lt; omega)
      have D4n : Hid (Blk wn K4 35 [.int .i64 x, .int .i64 y, .int .i64 t]) := hid (by rw [hwn]; exact D4.out.alloc _)
      have D2n : Hid (Blk wn K2 35 [.int .i64 0, .int .i64 0, .int .i64 0]) := hid (by rw [hwn]; exact D2.out.alloc _)
      have HBn : Hid (Below w.heap.size w wn) := hid (by rw [hwn]; exact Bl.new HB.out _)
      have HWN := hid hwn
      have HKN := hid hKN
      clear hwn hKN
      go_upto_region 7 with (fail)
      rw [← HWN.out, ← HKN.out]
      clear q0 q1 q2
      have s0 := D4n.out.cell 0
      have s1 := D4n.out.cell 1
      have s2 := D4n.out.cell 2
      have u0 := DN.out.cell 0
      have u1 := DN.out.cell 1
      have u2 := DN.out.cell 2
      have setN : ∀ w5 : World, Hid (Blk w5 K4 35 [.int .i64 x, .int .i64 y, .int .i64 t]) → Hid (Blk w5 K2 35 [.int .i64 0, .int .i64 0, .int .i64 0]) → Hid (Below w.heap.size w w5) →
          Hid (Blk (((w5.setCell ⟨K4, 0, none⟩ (.int .i64 x')).setCell ⟨K4, 1, none⟩ (.int .i64 y')).setCell ⟨K4, 2, none⟩ (.int .i64 t')) K4 35 [.int .i64 x', .int .i64 y', .int .i64 t'] ∧ Blk (((w5.setCell ⟨K4, 0, none⟩ (.int .i64 x')).setCell ⟨K4, 1, none⟩ (.int .i64 y')).setCell ⟨K4, 2, none⟩ (.int .i64 t')) K2 35 [.int .i64 0, .int .i64 0, .int .i64 0] ∧ Below w.heap.size w (((w5.setCell ⟨K4, 0, none⟩ (.int .i64 x')).setCell ⟨K4, 1, none⟩ (.int .i64 y')).setCell ⟨K4, 2, none⟩ (.int .i64 t'))) := fun w5 h4 h2 hb =>
        hid ⟨((h4.out.put 0 (.int .i64 x')).put 1 (.int .i64 y')).put 2 (.int .i64 t'), ((h2.out.far (p := ⟨K4, 0, none⟩) NE.out _).far (p := ⟨K4, 1, none⟩) NE.out _).far (p := ⟨K4, 2, none⟩) NE.out _, ((hb.out.setCell (p := ⟨K4, 0, none⟩) LO4.out _).setCell (p := ⟨K4, 1, none⟩) LO4.out _).setCell (p := ⟨K4, 2, none⟩) LO4.out _⟩
      have HSETN := hid setN
      clear setN
      rcases gt_cases (x, y, t) (x', y', t') with ⟨hg, ht⟩ | ⟨ht, hg⟩ | ⟨hg, ht⟩
      · dsimp only at ht
        have HN : Hid ((x', y', t') = (l.take (i + 1)).foldl Tp.gre1 (x0, y0, t0)) := hid (by rw [HNX.out]; unfold Tp.gre1; rw [hg]; rfl)
        have HS := HSETN.out wn D4n D2n HBn
        have f0 := D4n.out.frozen 0
        have f1 := D4n.out.frozen 1
        have f2 := D4n.out.frozen 2
        clear hg
        go_wp2_with fail
        go_roundw
        case rel => exact ⟨i + 1, x', y', t', by go_num, by omega, HN, hid HS.out.1, hid HS.out.2.1, hid HS.out.2.2⟩
        case measure => simp [intOf]; omega
      · dsimp only at ht
        subst ht
        have ht1 : ¬ t' < t' := by omega
        have ht2 : (t' == t') = true := by simp
        cases hls : lessE (x, y, t') (x', y', t') with
        | true =>
          rw [hls] at hg
          have HN : Hid ((x', y', t') = (l.take (i + 1)).foldl Tp.gre1 (x0, y0, t0)) := hid (by rw [HNX.out]; unfold Tp.gre1; rw [hg]; rfl)
          have HLS := hid hls
          clear hls hg
          go_wp2_with fail
          refine (less_is true HLS.out _).mono ?_; rintro e w5 ⟨rfl, b5⟩
          clear s0 s1 s2 u0 u1 u2
          have D45 := hid (D4n.out.on b5)
          have D25 := hid (D2n.out.on b5)
          have DN5 := hid (DN.out.on b5)
          have HB5 := hid (Bl.call HBn.out b5)
          clear b5
          have HS := HSETN.out w5 D45 D25 HB5
          have s0 := D45.out.cell 0
          have s1 := D45.out.cell 1
          have s2 := D45.out.cell 2
          have u0 := DN5.out.cell 0
          have u1 := DN5.out.cell 1
          have u2 := DN5.out.cell 2
          have f0 := D45.out.frozen 0
          have f1 := D45.out.frozen 1
          have f2 := D45.out.frozen 2
          go_wp2_with fail
          go_roundw
          case rel => exact ⟨i + 1, x', y', t', by go_num, by omega, HN, hid HS.out.1, hid HS.out.2.1, hid HS.out.2.2⟩
          case measure => simp [intOf]; omega
        | false =>
          rw [hls] at hg
          have HN : Hid ((x, y, t') = (l.take (i + 1)).foldl Tp.gre1 (x0, y0, t0)) := hid (by rw [HNX.out]; unfold Tp.gre1; rw [hg]; rfl)
          have HLS := hid hls
          clear hls hg
          go_wp2_with fail
          refine (less_is false HLS.out _).mono ?_; rintro e w5 ⟨rfl, b5⟩
          clear s0 s1 s2 u0 u1 u2
          have D45 := hid (D4n.out.on b5)
          have D25 := hid (D2n.out.on b5)
          have HB5 := hid (Bl.call HBn.out b5)
          clear b5
          go_wp2_with fail
          go_roundw
          case rel => exact ⟨i + 1, x, y, t', by go_num, by omega, HN, D45, D25, HB5⟩
          case measure => simp [intOf]; omega
      · dsimp only at ht
        have ht1 : ¬ t < t' := by omega
        have ht2 : (t' == t) = false := by simp; omega
        have HN : Hid ((x, y, t) = (l.take (i + 1)).foldl Tp.gre1 (x0, y0, t0)) := hid (by rw [HNX.out]; unfold Tp.gre1; rw [hg]; rfl)
        clear hg
        go_wp2_with fail
        go_roundw
        case rel => exact ⟨i + 1, x, y, t, by go_num, by omega, HN, D4n, D2n, HBn⟩
        case measure => simp [intOf]; omega
    · have j0 : ¬ (i : Int) < (q : Int) := by omega
      obtain rfl : i = q := by omega
      have HE : Hid ((x, y, t) = l.foldl Tp.gre1 (x0, y0, t0)) := hid (by have := HG.out; rw [List.take_of_length_le (by rw [hql.out]; exact Nat.le_refl _)] at this; exact this)
      have s0 := D4.out.cell 0
      have s1 := D4.out.cell 1
      have s2 := D4.out.cell 2
      have f0 := D2.out.frozen 0
      have f1 := D2.out.frozen 1
      have f2 := D2.out.frozen 2
      have k0 := D2.out.cell 0
      have k1 := D2.out.cell 1
      have k2 := D2.out.cell 2
      obtain ⟨w8, hw⟩ : ∃ z, z = ((wr.setCell ⟨K2, 0, none⟩ (.int .i64 x)).setCell ⟨K2, 1, none⟩ (.int .i64 y)).setCell ⟨K2, 2, none⟩ (.int .i64 t) := ⟨_, rfl⟩
      have D8 : Hid (Blk w8 K2 35 [.int .i64 x, .int .i64 y, .int .i64 t]) := hid (by rw [hw]; exact ((D2.out.put 0 (.int .i64 x)).put 1 (.int .i64 y)).put 2 (.int .i64 t))
      have HB8 : Hid (Below w.heap.size w w8) := hid (by rw [hw]; exact ((HB.out.setCell (p := ⟨K2, 0, none⟩) LO2.out _).setCell (p := ⟨K2, 1, none⟩) LO2.out _).setCell (p := ⟨K2, 2, none⟩) LO2.out _)
      have HW8 := hid hw
      clear hw
      go_wp2
      rw [← HW8.out]
      clear s0 s1 s2 f0 f1 f2 k0 k1 k2
      have e0 := D8.out.cell 0
      have e1 := D8.out.cell 1
      have e2 := D8.out.cell 2
      exact bodyPost_ret (v := .tuple #[.agg #[.int .i64 x, .int .i64 y, .int .i64 t], .bool true]) (by simp [results, Tryz.results82, go_sem, e0, e1, e2]) rfl ⟨by rw [← HE.out], HB8.out⟩
theorem exec_take {t e : TypeId} {z : Value} {sz by_ : Nat} (hT : SlT t e z sz by_) {ρ : Operand → Value} {o : Oper} {x k : Operand} (ho : o.op = .slice t x none (some k) none) {A : Option Addr} {n c kk : Nat} (hx : ρ x = .slice A n c) (hk : ρ k = .int .i64 (kk : Int)) (h : kk ≤ c) (w : World) :
    (execOp ρ o).run Tryz.prog w = .ok (.value (.slice (cutA A c 0 sz) kk c)) w := by
  unfold execOp
  rw [ho]
  simp only [hx, hk, Option.map_some, Option.map_none, Sem.run_bind, run_sliceAt_slice (P := Tryz.prog) w t _ _ _ _ (und_of hT), run_take_of hT A n c kk h w, Result.andThen_ok, Sem.run_pure]
theorem exec_drop {t e : TypeId} {z : Value} {sz by_ : Nat} (hT : SlT t e z sz by_) {ρ : Operand → Value} {o : Oper} {x k : Operand} (ho : o.op = .slice t x (some k) none none) {A : Option Addr} {n c kk : Nat} {zz : Int} (hx : ρ x = .slice A n c) (hk : ρ k = .int .i64 zz) (hz : zz = (kk : Int)) (h : kk ≤ n) (w : World) :
    (execOp ρ o).run Tryz.prog w = .ok (.value (.slice (cutA A c kk sz) (n - kk) (c - kk))) w := by
  subst hz
  unfold execOp
  rw [ho]
  simp only [hx, hk, Option.map_some, Option.map_none, Sem.run_bind, run_sliceAt_slice (P := Tryz.prog) w t _ _ _ _ (und_of hT), run_drop_of hT A n c kk h w, Result.andThen_ok, Sem.run_pure]
theorem eds_take (l : List (Int × Int × Int)) (k : Nat) : (eds l).take (k * 3) = eds (l.take k) := by
  induction k generalizing l with
  | zero => simp [eds]
  | succ k ih =>
    cases l with
    | nil => simp [eds]
    | cons a l =>
      rw [List.take_succ_cons, show (k + 1) * 3 = k * 3 + 1 + 1 + 1 by omega]
      have := ih l
      simp [eds] at this ⊢
      exact this
theorem eds_drop (l : List (Int × Int × Int)) (k : Nat) : (eds l).drop (k * 3) = eds (l.drop k) := by
  induction k generalizing l with
  | zero => simp
  | succ k ih =>
    cases l with
    | nil => simp [eds]
    | cons a l =>
      rw [List.drop_succ_cons, ← ih l, show (k + 1) * 3 = k * 3 + 1 + 1 + 1 by omega]
      simp [eds]
theorem PartsAt.call {w a : World} {vs : List Value} {ls : List (List (Int × Int × Int))} (h : PartsAt w vs ls) (hb : Below w.heap.size w a) : PartsAt a vs ls := fun i hi => by
  obtain ⟨A, c, hv, hs⟩ := h i hi
  exact ⟨A, c, hv, hs.call hb⟩
theorem parts2 {w : World} {v1 v2 : Value} {n1 n2 : Nat} {l1 l2 : List (Int × Int × Int)} (h1 : Sl w w.heap.size 3 v1 n1 (eds l1)) (h2 : Sl w w.heap.size 3 v2 n2 (eds l2)) : PartsAt w [v1, v2] [l1, l2] := by
  have e1 : n1 = l1.length := by have := h1.len; rw [len_eds] at this; omega
  have e2 : n2 = l2.length := by have := h2.len; rw [len_eds] at this; omega
  subst e1 e2
  intro i hi
  match i, hi with
  | 0, _ => obtain ⟨A, c, hv, r⟩ := id h1; subst hv; exact ⟨A, c, rfl, h1⟩
  | 1, _ => obtain ⟨A, c, hv, r⟩ := id h2; subst hv; exact ⟨A, c, rfl, h2⟩
theorem parts3 {w : World} {v1 v2 v3 : Value} {n1 n2 n3 : Nat} {l1 l2 l3 : List (Int × Int × Int)} (h1 : Sl w w.heap.size 3 v1 n1 (eds l1)) (h2 : Sl w w.heap.size 3 v2 n2 (eds l2)) (h3 : Sl w w.heap.size 3 v3 n3 (eds l3)) : PartsAt w [v1, v2, v3] [l1, l2, l3] := by
  have e1 : n1 = l1.length := by have := h1.len; rw [len_eds] at this; omega
  have e2 : n2 = l2.length := by have := h2.len; rw [len_eds] at this; omega
  have e3 : n3 = l3.length := by have := h3.len; rw [len_eds] at this; omega
  subst e1 e2 e3
  intro i hi
  match i, hi with
  | 0, _ => obtain ⟨A, c, hv, r⟩ := id h1; subst hv; exact ⟨A, c, rfl, h1⟩
  | 1, _ => obtain ⟨A, c, hv, r⟩ := id h2; subst hv; exact ⟨A, c, rfl, h2⟩
  | 2, _ => obtain ⟨A, c, hv, r⟩ := id h3; subst hv; exact ⟨A, c, rfl, h3⟩
set_option maxRecDepth 100000 in
set_option maxHeartbeats 16000000 in
theorem tremove_ok {n : Int} {v0 : Value} {m : Nat} {l : List (Int × Int × Int)} {u v : Int} {w : World} (hs : Sl w w.heap.size 3 v0 m (eds l)) (ht : TabR n l) (u1 : 0 ≤ u) (u2 : u < n) (v1 : 0 ≤ v) (v2 : v < n) {i : Nat} (hf : Tp.fiP (Pt.uv l) u v = some i) (hm : m ≤ 1000) :
    Calls Tryz.prog 29 #[.int .i64 n, v0, .int .i64 u, .int .i64 v] w (OwnTup (l.eraseIdx i) w) := by
  have hl : l.length = m := by have := hs.len; rw [len_eds] at this; omega
  have hil : i < m := by
    obtain ⟨x, hx, _⟩ := Tp.fiP_some hf
    have := (List.getElem?_eq_some_iff.1 hx).1
    rw [← hl]; simpa [Pt.uv] using this
  obtain ⟨A, c, rfl, hnc, hcm, hll, hx⟩ := hs
  have HS : Hid (Sl w w.heap.size 3 (.slice A m c) m (eds l)) := hid ⟨A, c, rfl, hnc, hcm, hll, hx⟩
  have HT := hid ht
  have HF := hid hf
  have HL := hid hl
  have HIC : Hid (i ≤ c) := hid (by omega)
  have HIM : Hid (i + 1 ≤ m) := hid (by omega)
  have HE : Hid ([l.take i, l.drop (i + 1)].flatten = l.eraseIdx i) := hid (by rw [List.eraseIdx_eq_take_drop_succ]; simp)
  have HE2 : Hid (([l.take i, l.drop (i + 1)] : List (List (Int × Int × Int))).flatten.length ≤ 100000) := hid (by simp; omega)
  have hi63 : (i : Int) ≤ 1000 := by omega
  have HZW : Hid (IntKind.i64.wrap ((i : Int) + 1) = ((i + 1 : Nat) : Int)) := hid (by rw [IntKind.wrap_i64]; omega)
  clear ht hf hl hnc hcm hll hx
  go_enter Tryz.func29, Tryz.ntmps29
  go_wp2_with fail
  refine (tright_is HS.out true ⟨fun _ => rfl, fun _ => HT.out⟩).mono ?_; rintro e w2 ⟨rfl, b2⟩
  have HB2 := hid b2
  have HS2 := hid (HS.out.call b2)
  clear b2
  go_wp2_with fail
  refine (tvertex_yes u1 u2 _).mono ?_; rintro e w' ⟨rfl, rfl⟩
  go_wp2_with fail
  refine (tvertex_yes v1 v2 _).mono ?_; rintro e w' ⟨rfl, rfl⟩
  go_wp2_with fail
  refine (nfind_is HS2.out HF.out).mono ?_; rintro e w3 ⟨rfl, b3⟩
  have HB3 := hid (Bl.call HB2.out b3)
  have HS3 := hid (HS2.out.call b3)
  clear b3
  have U1 : Hid (Sl w3 w3.heap.size 3 (.slice (cutA A c 0 3) i c) i (eds (l.take i))) := hid (by rw [← eds_take]; exact HS3.out.take (by omega))
  have U2 : Hid (Sl w3 w3.heap.size 3 (.slice (cutA A c (i + 1) 3) (m - (i + 1)) (c - (i + 1))) (m - (i + 1)) (eds (l.drop (i + 1)))) := hid (by rw [← eds_drop]; exact HS3.out.drop (by omega))
  go_wp2_with fail
  refine wp_region_held_drew (S := fun _ => True) (by kernel_rfl) trivial (fun hHeld => ?_)
  refine wpAnyH_take (i := 0) (oi := _) (v := ?rv1) rfl (by kernel_rfl) (by kernel_rfl) (by kernel_rfl) (fun _ _ _ h => h) (Or.inl ⟨by rfl, ?ry1⟩) (by assumption) ?rr1
  case ry1 => (intro w hSw; (try dsimp only at hSw); go_simp; try (with_reducible rfl))
  (try simp only [Act.put, putL])
  refine wpAnyH_take (i := 1) (oi := _) (v := ?rv2) rfl (by kernel_rfl) (by kernel_rfl) (by kernel_rfl) (fun _ _ _ h => h) (Or.inl ⟨by rfl, ?ry2⟩) (by assumption) ?rr2
  case ry2 => (intro w hSw; (try dsimp only at hSw); go_simp; try (with_reducible rfl))
  (try simp only [Act.put, putL])
  refine wpAnyH_take (i := 2) (oi := _) (v := ?rv3) rfl (by kernel_rfl) (by kernel_rfl) (by kernel_rfl) (fun _ _ _ h => h) (Or.inl ⟨by rfl, ?ry3⟩) (by assumption) ?rr3
  case ry3 => (intro w hSw; refine exec_take (A := A) (n := m) (c := c) (kk := i) (x := .tmp 39) (k := .tmp 40) Tedg ?_ ?_ ?_ HIC.out _ <;> rfl)
  (try simp only [Act.put, putL])
  refine wpAnyH_take (i := 3) (oi := _) (v := ?rv4) rfl (by kernel_rfl) (by kernel_rfl) (by kernel_rfl) (fun _ _ _ h => h) (Or.inl ⟨by rfl, ?ry4⟩) (by assumption) ?rr4
  case ry4 => (intro w hSw; (try dsimp only at hSw); go_simp; try (with_reducible rfl))
  (try simp only [Act.put, putL])
  refine wpAnyH_take (i := 4) (oi := _) (v := ?rv5) rfl (by kernel_rfl) (by kernel_rfl) (by kernel_rfl) (fun _ _ _ h => h) (Or.inl ⟨by rfl, ?ry5⟩) (by assumption) ?rr5
  case ry5 => (intro w hSw; (try dsimp only at hSw); go_simp; try (with_reducible rfl))
  (try simp only [Act.put, putL])
  refine wpAnyH_take (i := 5) (oi := _) (v := ?rv6) rfl (by kernel_rfl) (by kernel_rfl) (by kernel_rfl) (fun _ _ _ h => h) (Or.inl ⟨by rfl, ?ry6⟩) (by assumption) ?rr6
  case ry6 => (intro w hSw; (try dsimp only at hSw); go_simp; try (with_reducible rfl))
  (try simp only [Act.put, putL])
  refine wpAnyH_take (i := 6) (oi := _) (v := ?rv7) rfl (by kernel_rfl) (by kernel_rfl) (by kernel_rfl) (fun _ _ _ h => h) (Or.inl ⟨by rfl, ?ry7⟩) (by assumption) ?rr7
  case ry7 => (intro w hSw; refine exec_drop (A := A) (n := m) (c := c) (kk := i + 1) (zz := IntKind.i64.wrap ((i : Int) + 1)) (x := .tmp 42) (k := .tmp 44) Tedg ?_ ?_ ?_ HZW.out HIM.out _ <;> rfl)
  (try simp only [Act.put, putL])
  refine wpAnyH_ready (rs := [7]) (by kernel_rfl) (by simp) ?_
  refine AllReadyH.cons (o := _) rfl (fun K hK => ?_) ?_
  · go_simp
    refine hK.out _ _ ?_ (fun hHeld => ?_)
    · trivial
    clear hK K
    (try simp only [Act.put, putL])
    refine wpAnyH_ready (rs := [8]) (by kernel_rfl) (by simp) ?_
    refine AllReadyH.cons (o := _) rfl (fun K hK => ?_) ?_
    · go_simp
      go_at_call 55
      refine (concat_any (K := w3.drew.heap.size) (k := 2) (vs := [.slice (cutA A c 0 3) i c, .slice (cutA A c (i + 1) 3) (m - (i + 1)) (c - (i + 1))]) (ls := [l.take i, l.drop (i + 1)]) (Blk.new w3.drew 26 _) rfl (parts2 ((U1.out.cqt (qt_drew _)).new _) ((U2.out.cqt (qt_drew _)).new _)) HE2.out (by decide) rfl).mono ?_
      rintro e w9 ⟨v9, rfl, s9, b9⟩
      refine hK.out _ _ ?_ (fun hHeld => ?_)
      · trivial
      clear hK K
      (try simp only [Act.put, putL])
      refine wpAnyH_ready (rs := [9]) (by kernel_rfl) (by simp) ?_
      refine AllReadyH.cons (o := _) rfl (fun K hK => ?_) ?_
      · go_simp
        refine hK.out _ _ ?_ (fun hHeld => ?_)
        · trivial
        clear hK K
        (try simp only [Act.put, putL])
        refine wpAnyH_ready (rs := [10]) (by kernel_rfl) (by simp) ?_
        refine AllReadyH.cons (o := _) rfl (fun K hK => ?_) ?_
        · go_simp
          refine hK.out _ _ ?_ (fun hHeld => ?_)
          · trivial
          clear hK K
          (try simp only [Act.put, putL])
          refine wpAnyH_done (by kernel_rfl) ?_ _
          go_wp2
          go_ret2
          have BB := Bl.new (Bl.qt HB3.out (qt_drew _)) (.cells #[.slice (cutA A c 0 3) i c, .slice (cutA A c (i + 1) 3) (m - (i + 1)) (c - (i + 1))] 26)
          exact ⟨v9, rfl, by rw [← HE.out]; exact own_more s9 BB.size, Bl.call BB b9⟩
        exact AllReadyH.nil
      exact AllReadyH.nil
    exact AllReadyH.nil
  exact AllReadyH.nil
set_option maxRecDepth 100000 in
set_option maxHeartbeats 16000000 in
theorem tadd_loop {n : Int} {v0 : Value} {m : Nat} {l : List (Int × Int × Int)} {u : Int} {w : World} (hs : Sl w w.heap.size 3 v0 m (eds l)) (ht : TabR n l) (u1 : 0 ≤ u) (u2 : u < n) :
    Calls Tryz.prog 34 #[.int .i64 n, v0, .int .i64 u, .int .i64 u] w fun e w' => e = .returned (.tuple #[v0, .int .i64 8]) ∧ Below w.heap.size w w' := by
  have HS := hid hs
  have HT := hid ht
  have v1 := u1
  have v2 := u2
  have e1 : (u == u) = true := by simp
  clear hs ht
  go_enter Tryz.func34, Tryz.ntmps34
  go_wp2_with fail
  refine (tright_is HS.out true ⟨fun _ => rfl, fun _ => HT.out⟩).mono ?_; rintro e w2 ⟨rfl, b2⟩
  have HB2 := hid b2
  have HS2 := hid (HS.out.call b2)
  clear b2
  go_wp2_with fail
  refine (tvertex_yes u1 u2 _).mono ?_; rintro e w' ⟨rfl, rfl⟩
  go_wp2_with fail
  refine (tvertex_yes v1 v2 _).mono ?_; rintro e w' ⟨rfl, rfl⟩
  go_wp2
  go_ret2
  exact ⟨rfl, HB2.out⟩
set_option maxRecDepth 100000 in
set_option maxHeartbeats 16000000 in
theorem tadd_there {n : Int} {v0 : Value} {m : Nat} {l : List (Int × Int × Int)} {u v : Int} {w : World} (hs : Sl w w.heap.size 3 v0 m (eds l)) (ht : TabR n l) (u1 : 0 ≤ u) (u2 : u < n) (v1 : 0 ≤ v) (v2 : v < n) (huv : u ≠ v) {i : Nat} (hf : Tp.fiP (Pt.uv l) u v = some i) :
    Calls Tryz.prog 34 #[.int .i64 n, v0, .int .i64 u, .int .i64 v] w fun e w' => e = .returned (.tuple #[v0, .int .i64 4]) ∧ Below w.heap.size w w' := by
  have HS := hid hs
  have HT := hid ht
  have HF := hid hf
  have e1 : (u == v) = false := by simp [huv]
  clear hs ht huv hf
  go_enter Tryz.func34, Tryz.ntmps34
  go_wp2_with fail
  refine (tright_is HS.out true ⟨fun _ => rfl, fun _ => HT.out⟩).mono ?_; rintro e w2 ⟨rfl, b2⟩
  have HB2 := hid b2
  have HS2 := hid (HS.out.call b2)
  clear b2
  go_wp2_with fail
  refine (tvertex_yes u1 u2 _).mono ?_; rintro e w' ⟨rfl, rfl⟩
  go_wp2_with fail
  refine (tvertex_yes v1 v2 _).mono ?_; rintro e w' ⟨rfl, rfl⟩
  go_wp2_with fail
  refine (nfind_is HS2.out HF.out).mono ?_; rintro e w3 ⟨rfl, b3⟩
  have HB3 := hid (Bl.call HB2.out b3)
  clear b3
  go_wp2
  go_ret2
  exact ⟨rfl, HB3.out⟩
theorem tremove_none {n : Int} {v0 : Value} {m : Nat} {l : List (Int × Int × Int)} {u v : Int} {w : World} (hs : Sl w w.heap.size 3 v0 m (eds l)) (ht : TabR n l) (u1 : 0 ≤ u) (u2 : u < n) (v1 : 0 ≤ v) (v2 : v < n) (hf : Tp.fiP (Pt.uv l) u v = none) :
    Calls Tryz.prog 29 #[.int .i64 n, v0, .int .i64 u, .int .i64 v] w fun e w' => e = .returned (.tuple #[v0, .int .i64 9]) ∧ Below w.heap.size w w' := by
  have HS := hid hs
  have HT := hid ht
  have HF := hid hf
  clear hs ht hf
  go_enter Tryz.func29, Tryz.ntmps29
  go_wp2_with fail
  refine (tright_is HS.out true ⟨fun _ => rfl, fun _ => HT.out⟩).mono ?_; rintro e w2 ⟨rfl, b2⟩
  have HB2 := hid b2
  have HS2 := hid (HS.out.call b2)
  clear b2
  go_wp2_with fail
  refine (tvertex_yes u1 u2 _).mono ?_; rintro e w' ⟨rfl, rfl⟩
  go_wp2_with fail
  refine (tvertex_yes v1 v2 _).mono ?_; rintro e w' ⟨rfl, rfl⟩
  go_wp2_with fail
  refine (nfind_no HS2.out HF.out).mono ?_; rintro e w3 ⟨rfl, b3⟩
  have HB3 := hid (Bl.call HB2.out b3)
  clear b3
  go_wp2
  go_ret2
  exact ⟨rfl, HB3.out⟩
theorem lsB_low2 (l : List (Int × Int × Int)) (d : Int × Int × Int) (i : Nat) (hi : i ≤ l.length) (h1 : ∀ j, (h : j < l.length) → j < i → lessE l[j] d = true) (h2 : ∀ h : i < l.length, lessE l[i] d = false) :
    l.takeWhile (fun e => Tp.lsB e d) = l.take i ∧ l.dropWhile (fun e => Tp.lsB e d) = l.drop i := by
  induction l generalizing i with
  | nil => simp
  | cons a l ih =>
    cases i with
    | zero =>
      have := h2 (by simp)
      have h3 : Tp.lsB a d = false := this
      simp [List.takeWhile_cons, List.dropWhile_cons, h3]
    | succ i =>
      have h3 : Tp.lsB a d = true := h1 0 (by simp) (by omega)
      obtain ⟨k1, k2⟩ := ih i (by simpa using hi) (fun j h hj => h1 (j + 1) (by simpa using h) (by omega)) (fun h => h2 (by simpa using h))
      simp [List.takeWhile_cons, List.dropWhile_cons, h3, k1, k2]
set_option maxRecDepth 100000 in
set_option maxHeartbeats 16000000 in
theorem tadd_lt {n : Int} {v0 : Value} {m : Nat} {l : List (Int × Int × Int)} {u v : Int} {w : World} (hs : Sl w w.heap.size 3 v0 m (eds l)) (ht : TabR n l) (u1 : 0 ≤ u) (u2 : u < n) (v1 : 0 ≤ v) (v2 : v < n) (huv : u < v) (hf : Tp.fiP (Pt.uv l) u v = none) (hm : m ≤ 1000) :
    Calls Tryz.prog 34 #[.int .i64 n, v0, .int .i64 u, .int .i64 v] w (OwnTup (Tp.addF l u v) w) := by
  have hl : l.length = m := by have := hs.len; rw [len_eds] at this; omega
  have HNE : Hid (Tp.newE u v = (u, v, 0)) := hid (by unfold Tp.newE; rw [Int.min_eq_left (by omega), Int.max_eq_right (by omega)])
  obtain ⟨A, c, rfl, hnc, hcm, hll, hx⟩ := hs
  have HS : Hid (Sl w w.heap.size 3 (.slice A m c) m (eds l)) := hid ⟨A, c, rfl, hnc, hcm, hll, hx⟩
  have HT := hid ht
  have HF := hid hf
  have HL := hid hl
  have HX := hid hx
  have HC : Hid (m ≤ c) := hid hnc
  have hm63 : m ≤ 9223372036854775807 := by omega
  have e1 : (u == v) = false := by simp; omega
  have a6 : u ≤ v := by omega
  have a7 : ¬ v ≤ u := by omega
  have a9 : ¬ v < u := by omega
  clear ht hf hl hnc hcm hll hx
  go_enter Tryz.func34, Tryz.ntmps34
  go_wp2_with fail
  refine (tright_is HS.out true ⟨fun _ => rfl, fun _ => HT.out⟩).mono ?_; rintro e w2 ⟨rfl, b2⟩
  have HB2 := hid b2
  have HS2 := hid (HS.out.call b2)
  clear b2
  go_wp2_with fail
  refine (tvertex_yes u1 u2 _).mono ?_; rintro e w' ⟨rfl, rfl⟩
  go_wp2_with fail
  refine (tvertex_yes v1 v2 _).mono ?_; rintro e w' ⟨rfl, rfl⟩
  go_wp2_with fail
  refine (nfind_no HS2.out HF.out).mono ?_; rintro e w3 ⟨rfl, b3⟩
  have HB3 := hid (Bl.call HB2.out b3)
  have HS3 := hid (HS2.out.call b3)
  clear b3
  obtain ⟨w4, hw4⟩ : ∃ W, W = w3.alloc (.cells #[.int .i64 u, .int .i64 v, .int .i64 0] 35) := ⟨_, rfl⟩
  obtain ⟨K, hK⟩ : ∃ K, K = w3.heap.size := ⟨_, rfl⟩
  have D4 : Hid (Blk w4 K 35 [.int .i64 u, .int .i64 v, .int .i64 0]) := hid (by rw [hw4, hK]; exact Blk.new _ _ _)
  have HB4 : Hid (Below w.heap.size w w4) := hid (by rw [hw4]; exact Bl.new HB3.out _)
  have HS4 : Hid (Sl w4 w4.heap.size 3 (.slice A m c) m (eds l)) := hid (by rw [hw4]; exact HS3.out.new _)
  have HW4 := hid hw4
  have HK := hid hK
  clear hw4 hK HS3 HB3
  go_wp2_with fail
  rw [← HK.out, ← HW4.out]
  go_loopw [13] (fun iv wr => ∃ i : Nat, iv = .int .i64 (i : Int) ∧ i ≤ m ∧ Hid (∀ j, (h : j < l.length) → j < i → lessE l[j] (u, v, 0) = true) ∧ Hid (Below w4.heap.size w4 wr)) (fun iv _ => m - (intOf iv).toNat)
  case atStart => exact ⟨0, rfl, Nat.zero_le _, hid (fun j _ hj => absurd hj (Nat.not_lt_zero _)), hid (Below.refl _ _)⟩
  case round =>
    obtain ⟨i, rfl, hi, HP, HBr⟩ := hrel
    have Dr := hid (D4.out.below HBr.out D4.out.lt)
    have HSr := hid (HS4.out.call HBr.out)
    have HB5 := hid (Bl.call HB4.out HBr.out)
    have k0 := Dr.out.cell 0
    have k1 := Dr.out.cell 1
    have k2 := Dr.out.cell 2
    have HIM : Hid (i ≤ m) := hid hi
    have HIC : Hid (i ≤ c) := hid (Nat.le_trans hi HC.out)
    have hi63 : (i : Int) ≤ 1000 := by omega
    have U1 : Hid (∀ w9 : World, Below wr.heap.size wr w9 → Sl w9 w9.heap.size 3 (.slice (cutA A c 0 3) i c) i (eds (l.take i))) := hid (fun w9 b => by have h := HSr.out.take (k := i) hi; rw [eds_take] at h; exact h.call b)
    have U2 : Hid (∀ w9 : World, Below wr.heap.size wr w9 → Sl w9 w9.heap.size 3 (.slice (cutA A c i 3) (m - i) (c - i)) (m - i) (eds (l.drop i))) := hid (fun w9 b => by have h := HSr.out.drop (k := i) hi; rw [eds_drop] at h; exact h.call b)
    have HE2 : Hid (([l.take i, [(u, v, (0 : Int))], l.drop i] : List (List (Int × Int × Int))).flatten.length ≤ 100000) := hid (by have := HL.out; simp; omega)
    by_cases hlt : i < m
    case pos =>
      have j0 : (i : Int) < (m : Int) := by omega
      have hil : i < l.length := by rw [HL.out]; exact hlt
      obtain ⟨b6, o6, rfl, hb6, hc6⟩ := HX.out (by omega)
      obtain ⟨p0, p1, p2⟩ := eds_cell hc6 hil
      have q0 := (HB5.out.cell (p := ⟨b6, o6 + i * 3, none⟩) hb6).trans p0
      have q1 := (HB5.out.cell (p := ⟨b6, o6 + i * 3 + 1, none⟩) hb6).trans p1
      have q2 := (HB5.out.cell (p := ⟨b6, o6 + i * 3 + 2, none⟩) hb6).trans p2
      have HNX := hid (fun (hb : lessE l[i] (u, v, 0) = true) (j : Nat) (h : j < l.length) (hj : j < i + 1) => show lessE l[j] (u, v, 0) = true from by
        rcases Nat.lt_or_ge j i with h3 | h3
        · exact HP.out j h h3
        · have : j = i := by omega
          subst this; exact hb)
      have HEN := hid (fun (hb : lessE l[i] (u, v, 0) = false) => show [l.take i, [(u, v, (0 : Int))], l.drop i].flatten = Tp.addF l u v from by
        obtain ⟨g1, g2⟩ := lsB_low2 l (u, v, 0) i (by omega) HP.out (fun _ => hb)
        unfold Tp.addF
        rw [HNE.out, g1, g2]; simp)
      obtain ⟨e, he⟩ : ∃ e, e = l[i] := ⟨_, rfl⟩
      rw [← he] at q0 q1 q2 HNX HEN
      obtain ⟨px, py, pt⟩ := e
      dsimp only at q0 q1 q2
      clear he p0 p1 p2 hc6 hil
      cases hls : lessE (px, py, pt) (u, v, 0) with
      | true =>
        have HN2 := hid (HNX.out hls)
        have HLS := hid hls
        clear hls HNX HEN
        go_wp2_with fail
        go_region_held3 (fun w' => w'.cell? ⟨b6, o6 + i * 3, none⟩ = some (.int .i64 px) ∧ w'.cell? ⟨b6, o6 + i * 3 + 1, none⟩ = some (.int .i64 py) ∧ w'.cell? ⟨b6, o6 + i * 3 + 2, none⟩ = some (.int .i64 pt) ∧ w'.cell? ⟨K, 0, none⟩ = some (.int .i64 u) ∧ w'.cell? ⟨K, 1, none⟩ = some (.int .i64 v) ∧ w'.cell? ⟨K, 2, none⟩ = some (.int .i64 0))
          (first | go_keep | (go_split_ands; and_intros <;> (first | (refine cell_later (by assumption) ?_; first | assumption | (rw [Qt.cell (qt_of _ _)]; assumption) | (rw [Qt.cell (qt_drew _)]; assumption)) | (refine cell_later (bel_new _ _) ?_; assumption))) | (refine cell_later (by assumption) ?_; first | assumption | (rw [Qt.cell (qt_of _ _)]; assumption) | (rw [Qt.cell (qt_drew _)]; assumption)) | (refine cell_later (bel_new _ _) ?_; assumption))
          ((go_at_call 57; (with_reducible refine (less_is true HLS.out _).mono ?_); rintro e w5 ⟨rfl, b5⟩))
        all_goals
          go_wp2_with fail
          go_roundw
          case rel => exact ⟨i + 1, by go_num, by omega, HN2, hid (by repeat (first | exact HBr.out | refine Bl.new ?_ _ | refine Bl.call ?_ (by assumption) | refine Bl.qt ?_ (by assumption) | refine Bl.qt ?_ (qt_drew _) | refine Bl.qt ?_ (qt_of _ _)))⟩
          case measure => simp [intOf]; omega
      | false =>
        have HEE := hid (HEN.out hls)
        have HLS := hid hls
        clear hls HNX HEN
        go_wp2_with fail
        go_region_held3 (fun w' => w'.cell? ⟨b6, o6 + i * 3, none⟩ = some (.int .i64 px) ∧ w'.cell? ⟨b6, o6 + i * 3 + 1, none⟩ = some (.int .i64 py) ∧ w'.cell? ⟨b6, o6 + i * 3 + 2, none⟩ = some (.int .i64 pt) ∧ w'.cell? ⟨K, 0, none⟩ = some (.int .i64 u) ∧ w'.cell? ⟨K, 1, none⟩ = some (.int .i64 v) ∧ w'.cell? ⟨K, 2, none⟩ = some (.int .i64 0))
          (first | go_keep | (go_split_ands; and_intros <;> (first | (refine cell_later (by assumption) ?_; first | assumption | (rw [Qt.cell (qt_of _ _)]; assumption) | (rw [Qt.cell (qt_drew _)]; assumption)) | (refine cell_later (bel_new _ _) ?_; assumption))) | (refine cell_later (by assumption) ?_; first | assumption | (rw [Qt.cell (qt_of _ _)]; assumption) | (rw [Qt.cell (qt_drew _)]; assumption)) | (refine cell_later (bel_new _ _) ?_; assumption))
          ((go_at_call 57; (with_reducible refine (less_is false HLS.out _).mono ?_); rintro e w5 ⟨rfl, b5⟩))
        all_goals
          have B95 : Below wr.heap.size wr w5 := Bl.call (Bl.qt (Below.refl _ _) (by first | exact qt_drew _ | exact qt_of _ _ | exact Qt.refl _)) b5
          have D5 := hid (Dr.out.on B95)
          have HB6 := hid (Bl.call HB5.out B95)
          have HBW := hid B95
          clear k0 k1 k2 q0 q1 q2 b5 B95
          have k0 := D5.out.cell 0
          have k1 := D5.out.cell 1
          have k2 := D5.out.cell 2
          go_wp2_with fail
          refine wp_region_held_drew (S := fun w' => w'.cell? ⟨K, 0, none⟩ = some (.int .i64 u) ∧ w'.cell? ⟨K, 1, none⟩ = some (.int .i64 v) ∧ w'.cell? ⟨K, 2, none⟩ = some (.int .i64 0)) (by kernel_rfl) ⟨k0, k1, k2⟩ (fun hHeld => ?_)
          refine wpAnyH_take (i := 0) (oi := _) (v := ?rv15) rfl (by kernel_rfl) (by kernel_rfl) (by kernel_rfl) (fun _ _ _ h => h) (Or.inl ⟨by rfl, ?ry15⟩) (by assumption) ?rr15
          case ry15 => (intro w hSw; (try dsimp only at hSw); go_simp; try (with_reducible rfl))
          (try simp only [Act.put, putL])
          refine wpAnyH_take (i := 1) (oi := _) (v := ?rv16) rfl (by kernel_rfl) (by kernel_rfl) (by kernel_rfl) (fun _ _ _ h => h) (Or.inl ⟨by rfl, ?ry16⟩) (by assumption) ?rr16
          case ry16 => (intro w hSw; (try dsimp only at hSw); go_simp; try (with_reducible rfl))
          (try simp only [Act.put, putL])
          refine wpAnyH_take (i := 2) (oi := _) (v := ?rv17) rfl (by kernel_rfl) (by kernel_rfl) (by kernel_rfl) (fun _ _ _ h => h) (Or.inl ⟨by rfl, ?ry17⟩) (by assumption) ?rr17
          case ry17 => (intro w hSw; refine exec_take (A := (some ⟨b6, o6, none⟩)) (n := m) (c := c) (kk := i) (x := .tmp 65) (k := .tmp 66) Tedg ?_ ?_ ?_ HIC.out _ <;> rfl)
          (try simp only [Act.put, putL])
          refine wpAnyH_take (i := 3) (oi := _) (v := ?rv18) rfl (by kernel_rfl) (by kernel_rfl) (by kernel_rfl) (fun _ _ _ h => h) (Or.inl ⟨by rfl, ?ry18⟩) (by assumption) ?rr18
          case ry18 => (intro w hSw; obtain ⟨g0, g1, g2⟩ := hSw; go_simp; try (with_reducible rfl))
          (try simp only [Act.put, putL])
          refine wpAnyH_take (i := 5) (oi := _) (v := ?rv19) rfl (by kernel_rfl) (by kernel_rfl) (by kernel_rfl) (fun _ _ _ h => h) (Or.inl ⟨by rfl, ?ry19⟩) (by assumption) ?rr19
          case ry19 => (intro w hSw; (try dsimp only at hSw); go_simp; try (with_reducible rfl))
          (try simp only [Act.put, putL])
          refine wpAnyH_take (i := 6) (oi := _) (v := ?rv20) rfl (by kernel_rfl) (by kernel_rfl) (by kernel_rfl) (fun _ _ _ h => h) (Or.inl ⟨by rfl, ?ry20⟩) (by assumption) ?rr20
          case ry20 => (intro w hSw; (try dsimp only at hSw); go_simp; try (with_reducible rfl))
          (try simp only [Act.put, putL])
          refine wpAnyH_take (i := 7) (oi := _) (v := ?rv21) rfl (by kernel_rfl) (by kernel_rfl) (by kernel_rfl) (fun _ _ _ h => h) (Or.inl ⟨by rfl, ?ry21⟩) (by assumption) ?rr21
          case ry21 => (intro w hSw; refine exec_drop (A := (some ⟨b6, o6, none⟩)) (n := m) (c := c) (kk := i) (zz := (i : Int)) (x := .tmp 70) (k := .tmp 71) Tedg ?_ ?_ ?_ rfl HIM.out _ <;> rfl)
          (try simp only [Act.put, putL])
          refine wpAnyH_ready (rs := [4]) (by kernel_rfl) (by simp) ?_
          refine AllReadyH.cons (o := _) rfl (fun K hK => ?_) ?_
          · go_simp
            refine hK.out _ _ ?_ (fun hHeld => ?_)
            · (first | go_keep | (go_split_ands; and_intros <;> (first | (refine cell_later (by assumption) ?_; first | assumption | (rw [Qt.cell (qt_of _ _)]; assumption) | (rw [Qt.cell (qt_drew _)]; assumption)) | (refine cell_later (bel_new _ _) ?_; assumption))) | (refine cell_later (by assumption) ?_; first | assumption | (rw [Qt.cell (qt_of _ _)]; assumption) | (rw [Qt.cell (qt_drew _)]; assumption)) | (refine cell_later (bel_new _ _) ?_; assumption))
            clear hK K
            (try simp only [Act.put, putL])
            refine wpAnyH_ready (rs := [8]) (by kernel_rfl) (by simp) ?_
            refine AllReadyH.cons (o := _) rfl (fun K hK => ?_) ?_
            · go_simp
              refine hK.out _ _ ?_ (fun hHeld => ?_)
              · (first | go_keep | (go_split_ands; and_intros <;> (first | (refine cell_later (by assumption) ?_; first | assumption | (rw [Qt.cell (qt_of _ _)]; assumption) | (rw [Qt.cell (qt_drew _)]; assumption)) | (refine cell_later (bel_new _ _) ?_; assumption))) | (refine cell_later (by assumption) ?_; first | assumption | (rw [Qt.cell (qt_of _ _)]; assumption) | (rw [Qt.cell (qt_drew _)]; assumption)) | (refine cell_later (bel_new _ _) ?_; assumption))
              clear hK K
              (try simp only [Act.put, putL])
              refine wpAnyH_ready (rs := [9]) (by kernel_rfl) (by simp) ?_
              refine AllReadyH.cons (o := _) rfl (fun K hK => ?_) ?_
              · go_simp
                go_at_call 55
                have BA : Below w5.heap.size w5 (w5.drew.alloc (.cells #[.int .i64 u, .int .i64 v, .int .i64 0] 35)) := Bl.new (Bl.qt (Below.refl _ _) (qt_drew _)) _
                have BW : Below wr.heap.size wr (w5.drew.alloc (.cells #[.int .i64 u, .int .i64 v, .int .i64 0] 35)) := Bl.call HBW.out BA
                have S1 : Sl (w5.drew.alloc (.cells #[.int .i64 u, .int .i64 v, .int .i64 0] 35)) (w5.drew.alloc (.cells #[.int .i64 u, .int .i64 v, .int .i64 0] 35)).heap.size 3 (.slice (some ⟨w5.heap.size, 0, none⟩) 1 1) 1 (eds [(u, v, 0)]) := (Blk.new w5.drew 35 [.int .i64 u, .int .i64 v, .int .i64 0]).sl (sz := 3) (by simp) (Nat.le_refl _) (by unfold maxLen; omega) rfl
                have hK3 : (w5.drew.alloc (.cells #[.int .i64 u, .int .i64 v, .int .i64 0] 35)).heap.size = w5.heap.size + 1 := by simp
                have D3 : Blk ((w5.drew.alloc (.cells #[.int .i64 u, .int .i64 v, .int .i64 0] 35)).alloc (.cells #[.slice (cutA (some ⟨b6, o6, none⟩) c 0 3) i c, .slice (some ⟨w5.heap.size, 0, none⟩) 1 1, .slice (cutA (some ⟨b6, o6, none⟩) c i 3) (m - i) (c - i)] 26)) (w5.heap.size + 1) 26 [.slice (cutA (some ⟨b6, o6, none⟩) c 0 3) i c, .slice (some ⟨w5.heap.size, 0, none⟩) 1 1, .slice (cutA (some ⟨b6, o6, none⟩) c i 3) (m - i) (c - i)] := by rw [← hK3]; exact Blk.new _ _ _
                have P3 : PartsAt ((w5.drew.alloc (.cells #[.int .i64 u, .int .i64 v, .int .i64 0] 35)).alloc (.cells #[.slice (cutA (some ⟨b6, o6, none⟩) c 0 3) i c, .slice (some ⟨w5.heap.size, 0, none⟩) 1 1, .slice (cutA (some ⟨b6, o6, none⟩) c i 3) (m - i) (c - i)] 26)) [.slice (cutA (some ⟨b6, o6, none⟩) c 0 3) i c, .slice (some ⟨w5.heap.size, 0, none⟩) 1 1, .slice (cutA (some ⟨b6, o6, none⟩) c i 3) (m - i) (c - i)] [l.take i, [(u, v, 0)], l.drop i] := parts3 (Sl.new (U1.out _ BW) _) (Sl.new S1 _) (Sl.new (U2.out _ BW) _)
                refine (concat_any (k := 3) D3 rfl P3 HE2.out (by decide) rfl).mono ?_
                rintro e w9 ⟨v9, rfl, s9, b9⟩
                refine hK.out _ _ ?_ (fun hHeld => ?_)
                · (first | go_keep | (go_split_ands; and_intros <;> (first | (refine cell_later (by assumption) ?_; first | assumption | (rw [Qt.cell (qt_of _ _)]; assumption) | (rw [Qt.cell (qt_drew _)]; assumption)) | (refine cell_later (bel_new _ _) ?_; assumption))) | (refine cell_later (by assumption) ?_; first | assumption | (rw [Qt.cell (qt_of _ _)]; assumption) | (rw [Qt.cell (qt_drew _)]; assumption)) | (refine cell_later (bel_new _ _) ?_; assumption))
                clear hK K
                (try simp only [Act.put, putL])
                refine wpAnyH_ready (rs := [10]) (by kernel_rfl) (by simp) ?_
                refine AllReadyH.cons (o := _) rfl (fun K hK => ?_) ?_
                · go_simp
                  refine hK.out _ _ ?_ (fun hHeld => ?_)
                  · (first | go_keep | (go_split_ands; and_intros <;> (first | (refine cell_later (by assumption) ?_; first | assumption | (rw [Qt.cell (qt_of _ _)]; assumption) | (rw [Qt.cell (qt_drew _)]; assumption)) | (refine cell_later (bel_new _ _) ?_; assumption))) | (refine cell_later (by assumption) ?_; first | assumption | (rw [Qt.cell (qt_of _ _)]; assumption) | (rw [Qt.cell (qt_drew _)]; assumption)) | (refine cell_later (bel_new _ _) ?_; assumption))
                  clear hK K
                  (try simp only [Act.put, putL])
                  refine wpAnyH_ready (rs := [11]) (by kernel_rfl) (by simp) ?_
                  refine AllReadyH.cons (o := _) rfl (fun K hK => ?_) ?_
                  · go_simp
                    refine hK.out _ _ ?_ (fun hHeld => ?_)
                    · (first | go_keep | (go_split_ands; and_intros <;> (first | (refine cell_later (by assumption) ?_; first | assumption | (rw [Qt.cell (qt_of _ _)]; assumption) | (rw [Qt.cell (qt_drew _)]; assumption)) | (refine cell_later (bel_new _ _) ?_; assumption))) | (refine cell_later (by assumption) ?_; first | assumption | (rw [Qt.cell (qt_of _ _)]; assumption) | (rw [Qt.cell (qt_drew _)]; assumption)) | (refine cell_later (bel_new _ _) ?_; assumption))
                    clear hK K
                    (try simp only [Act.put, putL])
                    refine wpAnyH_done (by kernel_rfl) ?_ _
                    go_wp2
                    go_ret2
                    exact ⟨v9, rfl, by rw [← HEE.out]; exact own_more s9 (Bl.new (Bl.call HB6.out BA) _).size, Bl.call (Bl.new (Bl.call HB6.out BA) _) b9⟩
                  exact AllReadyH.nil
                exact AllReadyH.nil
              exact AllReadyH.nil
            exact AllReadyH.nil
          exact AllReadyH.nil
    case neg =>
      have j0 : ¬ (i : Int) < (m : Int) := by omega
      obtain rfl : i = m := by omega
      have HEE : Hid ([l.take i, [(u, v, (0 : Int))], l.drop i].flatten = Tp.addF l u v) := hid (by
        obtain ⟨g1, g2⟩ := lsB_low2 l (u, v, 0) i (by rw [HL.out]; exact Nat.le_refl _) HP.out (fun h => absurd h (by rw [HL.out]; omega))
        unfold Tp.addF
        rw [HNE.out, g1, g2]; simp)
      go_wp2_with fail
      go_quiet (fail)
      rename_i nq
      obtain ⟨w5, hw5⟩ : ∃ W, W = wr.drewN nq := ⟨_, rfl⟩
      have B95 : Below wr.heap.size wr w5 := by rw [hw5]; exact (qt_of _ _).bel
      rw [← hw5]
      have HW5 := hid hw5
      clear hw5
      have D5 := hid (Dr.out.on B95)
      have HB6 := hid (Bl.call HB5.out B95)
      have HBW := hid B95
      clear k0 k1 k2 B95
      have k0 := D5.out.cell 0
      have k1 := D5.out.cell 1
      have k2 := D5.out.cell 2
      go_wp2_with fail
      refine wp_region_held_drew (S := fun w' => w'.cell? ⟨K, 0, none⟩ = some (.int .i64 u) ∧ w'.cell? ⟨K, 1, none⟩ = some (.int .i64 v) ∧ w'.cell? ⟨K, 2, none⟩ = some (.int .i64 0)) (by kernel_rfl) ⟨k0, k1, k2⟩ (fun hHeld => ?_)
      refine wpAnyH_take (i := 0) (oi := _) (v := ?rv8) rfl (by kernel_rfl) (by kernel_rfl) (by kernel_rfl) (fun _ _ _ h => h) (Or.inl ⟨by rfl, ?ry8⟩) (by assumption) ?rr8
      case ry8 => (intro w hSw; (try dsimp only at hSw); go_simp; try (with_reducible rfl))
      (try simp only [Act.put, putL])
      refine wpAnyH_take (i := 1) (oi := _) (v := ?rv9) rfl (by kernel_rfl) (by kernel_rfl) (by kernel_rfl) (fun _ _ _ h => h) (Or.inl ⟨by rfl, ?ry9⟩) (by assumption) ?rr9
      case ry9 => (intro w hSw; (try dsimp only at hSw); go_simp; try (with_reducible rfl))
      (try simp only [Act.put, putL])
      refine wpAnyH_take (i := 2) (oi := _) (v := ?rv10) rfl (by kernel_rfl) (by kernel_rfl) (by kernel_rfl) (fun _ _ _ h => h) (Or.inl ⟨by rfl, ?ry10⟩) (by assumption) ?rr10
      case ry10 => (intro w hSw; refine exec_take (A := A) (n := i) (c := c) (kk := i) (x := .tmp 65) (k := .tmp 66) Tedg ?_ ?_ ?_ HIC.out _ <;> rfl)
      (try simp only [Act.put, putL])
      refine wpAnyH_take (i := 3) (oi := _) (v := ?rv11) rfl (by kernel_rfl) (by kernel_rfl) (by kernel_rfl) (fun _ _ _ h => h) (Or.inl ⟨by rfl, ?ry11⟩) (by assumption) ?rr11
      case ry11 => (intro w hSw; obtain ⟨g0, g1, g2⟩ := hSw; go_simp; try (with_reducible rfl))
      (try simp only [Act.put, putL])
      refine wpAnyH_take (i := 5) (oi := _) (v := ?rv12) rfl (by kernel_rfl) (by kernel_rfl) (by kernel_rfl) (fun _ _ _ h => h) (Or.inl ⟨by rfl, ?ry12⟩) (by assumption) ?rr12
      case ry12 => (intro w hSw; (try dsimp only at hSw); go_simp; try (with_reducible rfl))
      (try simp only [Act.put, putL])
      refine wpAnyH_take (i := 6) (oi := _) (v := ?rv13) rfl (by kernel_rfl) (by kernel_rfl) (by kernel_rfl) (fun _ _ _ h => h) (Or.inl ⟨by rfl, ?ry13⟩) (by assumption) ?rr13
      case ry13 => (intro w hSw; (try dsimp only at hSw); go_simp; try (with_reducible rfl))
      (try simp only [Act.put, putL])
      refine wpAnyH_take (i := 7) (oi := _) (v := ?rv14) rfl (by kernel_rfl) (by kernel_rfl) (by kernel_rfl) (fun _ _ _ h => h) (Or.inl ⟨by rfl, ?ry14⟩) (by assumption) ?rr14
      case ry14 => (intro w hSw; refine exec_drop (A := A) (n := i) (c := c) (kk := i) (zz := (i : Int)) (x := .tmp 70) (k := .tmp 71) Tedg ?_ ?_ ?_ rfl HIM.out _ <;> rfl)
      (try simp only [Act.put, putL])
      refine wpAnyH_ready (rs := [4]) (by kernel_rfl) (by simp) ?_
      refine AllReadyH.cons (o := _) rfl (fun K hK => ?_) ?_
      · go_simp
        refine hK.out _ _ ?_ (fun hHeld => ?_)
        · (first | go_keep | (go_split_ands; and_intros <;> (first | (refine cell_later (by assumption) ?_; first | assumption | (rw [Qt.cell (qt_of _ _)]; assumption) | (rw [Qt.cell (qt_drew _)]; assumption)) | (refine cell_later (bel_new _ _) ?_; assumption))) | (refine cell_later (by assumption) ?_; first | assumption | (rw [Qt.cell (qt_of _ _)]; assumption) | (rw [Qt.cell (qt_drew _)]; assumption)) | (refine cell_later (bel_new _ _) ?_; assumption))
        clear hK K
        (try simp only [Act.put, putL])
        refine wpAnyH_ready (rs := [8]) (by kernel_rfl) (by simp) ?_
        refine AllReadyH.cons (o := _) rfl (fun K hK => ?_) ?_
        · go_simp
          refine hK.out _ _ ?_ (fun hHeld => ?_)
          · (first | go_keep | (go_split_ands; and_intros <;> (first | (refine cell_later (by assumption) ?_; first | assumption | (rw [Qt.cell (qt_of _ _)]; assumption) | (rw [Qt.cell (qt_drew _)]; assumption)) | (refine cell_later (bel_new _ _) ?_; assumption))) | (refine cell_later (by assumption) ?_; first | assumption | (rw [Qt.cell (qt_of _ _)]; assumption) | (rw [Qt.cell (qt_drew _)]; assumption)) | (refine cell_later (bel_new _ _) ?_; assumption))
          clear hK K
          (try simp only [Act.put, putL])
          refine wpAnyH_ready (rs := [9]) (by kernel_rfl) (by simp) ?_
          refine AllReadyH.cons (o := _) rfl (fun K hK => ?_) ?_
          · go_simp
            go_at_call 55
            have BA : Below w5.heap.size w5 (w5.alloc (.cells #[.int .i64 u, .int .i64 v, .int .i64 0] 35)) := Bl.new (Below.refl _ _) _
            have BW : Below wr.heap.size wr (w5.alloc (.cells #[.int .i64 u, .int .i64 v, .int .i64 0] 35)) := Bl.call HBW.out BA
            have S1 : Sl (w5.alloc (.cells #[.int .i64 u, .int .i64 v, .int .i64 0] 35)) (w5.alloc (.cells #[.int .i64 u, .int .i64 v, .int .i64 0] 35)).heap.size 3 (.slice (some ⟨w5.heap.size, 0, none⟩) 1 1) 1 (eds [(u, v, 0)]) := (Blk.new w5 35 [.int .i64 u, .int .i64 v, .int .i64 0]).sl (sz := 3) (by simp) (Nat.le_refl _) (by unfold maxLen; omega) rfl
            have hK3 : (w5.alloc (.cells #[.int .i64 u, .int .i64 v, .int .i64 0] 35)).heap.size = w5.heap.size + 1 := by simp
            have D3 : Blk ((w5.alloc (.cells #[.int .i64 u, .int .i64 v, .int .i64 0] 35)).alloc (.cells #[.slice (cutA A c 0 3) i c, .slice (some ⟨w5.heap.size, 0, none⟩) 1 1, .slice (cutA A c i 3) 0 (c - i)] 26)) (w5.heap.size + 1) 26 [.slice (cutA A c 0 3) i c, .slice (some ⟨w5.heap.size, 0, none⟩) 1 1, .slice (cutA A c i 3) 0 (c - i)] := by rw [← hK3]; exact Blk.new _ _ _
            have P3 : PartsAt ((w5.alloc (.cells #[.int .i64 u, .int .i64 v, .int .i64 0] 35)).alloc (.cells #[.slice (cutA A c 0 3) i c, .slice (some ⟨w5.heap.size, 0, none⟩) 1 1, .slice (cutA A c i 3) 0 (c - i)] 26)) [.slice (cutA A c 0 3) i c, .slice (some ⟨w5.heap.size, 0, none⟩) 1 1, .slice (cutA A c i 3) 0 (c - i)] [l.take i, [(u, v, 0)], l.drop i] := parts3 (Sl.new (U1.out _ BW) _) (Sl.new S1 _) (Sl.new (by have h := U2.out _ BW; rw [Nat.sub_self] at h; exact h) _)
            refine (concat_any (k := 3) (D3.on (qt_drew _).bel) rfl (PartsAt.call P3 (qt_drew _).bel) HE2.out (by decide) rfl).mono ?_
            rintro e w9 ⟨v9, rfl, s9, b9⟩
            refine hK.out _ _ ?_ (fun hHeld => ?_)
            · (first | go_keep | (go_split_ands; and_intros <;> (first | (refine cell_later (by assumption) ?_; first | assumption | (rw [Qt.cell (qt_of _ _)]; assumption) | (rw [Qt.cell (qt_drew _)]; assumption)) | (refine cell_later (bel_new _ _) ?_; assumption))) | (refine cell_later (by assumption) ?_; first | assumption | (rw [Qt.cell (qt_of _ _)]; assumption) | (rw [Qt.cell (qt_drew _)]; assumption)) | (refine cell_later (bel_new _ _) ?_; assumption))
            clear hK K
            (try simp only [Act.put, putL])
            refine wpAnyH_ready (rs := [10]) (by kernel_rfl) (by simp) ?_
            refine AllReadyH.cons (o := _) rfl (fun K hK => ?_) ?_
            · go_simp
              refine hK.out _ _ ?_ (fun hHeld => ?_)
              · (first | go_keep | (go_split_ands; and_intros <;> (first | (refine cell_later (by assumption) ?_; first | assumption | (rw [Qt.cell (qt_of _ _)]; assumption) | (rw [Qt.cell (qt_drew _)]; assumption)) | (refine cell_later (bel_new _ _) ?_; assumption))) | (refine cell_later (by assumption) ?_; first | assumption | (rw [Qt.cell (qt_of _ _)]; assumption) | (rw [Qt.cell (qt_drew _)]; assumption)) | (refine cell_later (bel_new _ _) ?_; assumption))
              clear hK K
              (try simp only [Act.put, putL])
              refine wpAnyH_ready (rs := [11]) (by kernel_rfl) (by simp) ?_
              refine AllReadyH.cons (o := _) rfl (fun K hK => ?_) ?_
              · go_simp
                refine hK.out _ _ ?_ (fun hHeld => ?_)
                · (first | go_keep | (go_split_ands; and_intros <;> (first | (refine cell_later (by assumption) ?_; first | assumption | (rw [Qt.cell (qt_of _ _)]; assumption) | (rw [Qt.cell (qt_drew _)]; assumption)) | (refine cell_later (bel_new _ _) ?_; assumption))) | (refine cell_later (by assumption) ?_; first | assumption | (rw [Qt.cell (qt_of _ _)]; assumption) | (rw [Qt.cell (qt_drew _)]; assumption)) | (refine cell_later (bel_new _ _) ?_; assumption))
                clear hK K
                (try simp only [Act.put, putL])
                refine wpAnyH_done (by kernel_rfl) ?_ _
                go_wp2
                go_ret2
                exact ⟨v9, rfl, by rw [← HEE.out]; exact own_more s9 (Bl.new (Bl.call HB6.out BA) _).size, Bl.call (Bl.qt (Bl.new (Bl.call HB6.out BA) _) (qt_drew _)) b9⟩
              exact AllReadyH.nil
            exact AllReadyH.nil
          exact AllReadyH.nil
        exact AllReadyH.nil
      exact AllReadyH.nil
set_option maxRecDepth 100000 in
set_option maxHeartbeats 16000000 in
theorem tadd_gt {n : Int} {v0 : Value} {m : Nat} {l : List (Int × Int × Int)} {u v : Int} {w : World} (hs : Sl w w.heap.size 3 v0 m (eds l)) (ht : TabR n l) (u1 : 0 ≤ u) (u2 : u < n) (v1 : 0 ≤ v) (v2 : v < n) (huv : v < u) (hf : Tp.fiP (Pt.uv l) u v = none) (hm : m ≤ 1000) :
    Calls Tryz.prog 34 #[.int .i64 n, v0, .int .i64 u, .int .i64 v] w (OwnTup (Tp.addF l u v) w) := by
  have hl : l.length = m := by have := hs.len; rw [len_eds] at this; omega
  have HNE : Hid (Tp.newE u v = (v, u, 0)) := hid (by unfold Tp.newE; rw [Int.min_eq_right (by omega), Int.max_eq_left (by omega)])
  obtain ⟨A, c, rfl, hnc, hcm, hll, hx⟩ := hs
  have HS : Hid (Sl w w.heap.size 3 (.slice A m c) m (eds l)) := hid ⟨A, c, rfl, hnc, hcm, hll, hx⟩
  have HT := hid ht
  have HF := hid hf
  have HL := hid hl
  have HX := hid hx
  have HC : Hid (m ≤ c) := hid hnc
  have hm63 : m ≤ 9223372036854775807 := by omega
  have e1 : (u == v) = false := by simp; omega
  have a6 : v ≤ u := by omega
  have a7 : ¬ u ≤ v := by omega
  have a9 : ¬ u < v := by omega
  clear ht hf hl hnc hcm hll hx
  go_enter Tryz.func34, Tryz.ntmps34
  go_wp2_with fail
  refine (tright_is HS.out true ⟨fun _ => rfl, fun _ => HT.out⟩).mono ?_; rintro e w2 ⟨rfl, b2⟩
  have HB2 := hid b2
  have HS2 := hid (HS.out.call b2)
  clear b2
  go_wp2_with fail
  refine (tvertex_yes u1 u2 _).mono ?_; rintro e w' ⟨rfl, rfl⟩
  go_wp2_with fail
  refine (tvertex_yes v1 v2 _).mono ?_; rintro e w' ⟨rfl, rfl⟩
  go_wp2_with fail
  refine (nfind_no HS2.out HF.out).mono ?_; rintro e w3 ⟨rfl, b3⟩
  have HB3 := hid (Bl.call HB2.out b3)
  have HS3 := hid (HS2.out.call b3)
  clear b3
  obtain ⟨w4, hw4⟩ : ∃ W, W = w3.alloc (.cells #[.int .i64 v, .int .i64 u, .int .i64 0] 35) := ⟨_, rfl⟩
  obtain ⟨K, hK⟩ : ∃ K, K = w3.heap.size := ⟨_, rfl⟩
  have D4 : Hid (Blk w4 K 35 [.int .i64 v, .int .i64 u, .int .i64 0]) := hid (by rw [hw4, hK]; exact Blk.new _ _ _)
  have HB4 : Hid (Below w.heap.size w w4) := hid (by rw [hw4]; exact Bl.new HB3.out _)
  have HS4 : Hid (Sl w4 w4.heap.size 3 (.slice A m c) m (eds l)) := hid (by rw [hw4]; exact HS3.out.new _)
  have HW4 := hid hw4
  have HK := hid hK
  clear hw4 hK HS3 HB3
  go_wp2_with fail
  rw [← HK.out, ← HW4.out]
  go_loopw [13] (fun iv wr => ∃ i : Nat, iv = .int .i64 (i : Int) ∧ i ≤ m ∧ Hid (∀ j, (h : j < l.length) → j < i → lessE l[j] (v, u, 0) = true) ∧ Hid (Below w4.heap.size w4 wr)) (fun iv _ => m - (intOf iv).toNat)
  case atStart => exact ⟨0, rfl, Nat.zero_le _, hid (fun j _ hj => absurd hj (Nat.not_lt_zero _)), hid (Below.refl _ _)⟩
  case round =>
    obtain ⟨i, rfl, hi, HP, HBr⟩ := hrel
    have Dr := hid (D4.out.below HBr.out D4.out.lt)
    have HSr := hid (HS4.out.call HBr.out)
    have HB5 := hid (Bl.call HB4.out HBr.out)
    have k0 := Dr.out.cell 0
    have k1 := Dr.out.cell 1
    have k2 := Dr.out.cell 2
    have HIM : Hid (i ≤ m) := hid hi
    have HIC : Hid (i ≤ c) := hid (Nat.le_trans hi HC.out)
    have hi63 : (i : Int) ≤ 1000 := by omega
    have U1 : Hid (∀ w9 : World, Below wr.heap.size wr w9 → Sl w9 w9.heap.size 3 (.slice (cutA A c 0 3) i c) i (eds (l.take i))) := hid (fun w9 b => by have h := HSr.out.take (k := i) hi; rw [eds_take] at h; exact h.call b)
    have U2 : Hid (∀ w9 : World, Below wr.heap.size wr w9 → Sl w9 w9.heap.size 3 (.slice (cutA A c i 3) (m - i) (c - i)) (m - i) (eds (l.drop i))) := hid (fun w9 b => by have h := HSr.out.drop (k := i) hi; rw [eds_drop] at h; exact h.call b)
    have HE2 : Hid (([l.take i, [(v, u, (0 : Int))], l.drop i] : List (List (Int × Int × Int))).flatten.length ≤ 100000) := hid (by have := HL.out; simp; omega)
    by_cases hlt : i < m
    case pos =>
      have j0 : (i : Int) < (m : Int) := by omega
      have hil : i < l.length := by rw [HL.out]; exact hlt
      obtain ⟨b6, o6, rfl, hb6, hc6⟩ := HX.out (by omega)
      obtain ⟨p0, p1, p2⟩ := eds_cell hc6 hil
      have q0 := (HB5.out.cell (p := ⟨b6, o6 + i * 3, none⟩) hb6).trans p0
      have q1 := (HB5.out.cell (p := ⟨b6, o6 + i * 3 + 1, none⟩) hb6).trans p1
      have q2 := (HB5.out.cell (p := ⟨b6, o6 + i * 3 + 2, none⟩) hb6).trans p2
      have HNX := hid (fun (hb : lessE l[i] (v, u, 0) = true) (j : Nat) (h : j < l.length) (hj : j < i + 1) => show lessE l[j] (v, u, 0) = true from by
        rcases Nat.lt_or_ge j i with h3 | h3
        · exact HP.out j h h3
        · have : j = i := by omega
          subst this; exact hb)
      have HEN := hid (fun (hb : lessE l[i] (v, u, 0) = false) => show [l.take i, [(v, u, (0 : Int))], l.drop i].flatten = Tp.addF l u v from by
        obtain ⟨g1, g2⟩ := lsB_low2 l (v, u, 0) i (by omega) HP.out (fun _ => hb)
        unfold Tp.addF
        rw [HNE.out, g1, g2]; simp)
      obtain ⟨e, he⟩ : ∃ e, e = l[i] := ⟨_, rfl⟩
      rw [← he] at q0 q1 q2 HNX HEN
      obtain ⟨px, py, pt⟩ := e
      dsimp only at q0 q1 q2
      clear he p0 p1 p2 hc6 hil
      cases hls : lessE (px, py, pt) (v, u, 0) with
      | true =>
        have HN2 := hid (HNX.out hls)
        have HLS := hid hls
        clear hls HNX HEN
        go_wp2_with fail
        go_region_held3 (fun w' => w'.cell? ⟨b6, o6 + i * 3, none⟩ = some (.int .i64 px) ∧ w'.cell? ⟨b6, o6 + i * 3 + 1, none⟩ = some (.int .i64 py) ∧ w'.cell? ⟨b6, o6 + i * 3 + 2, none⟩ = some (.int .i64 pt) ∧ w'.cell? ⟨K, 0, none⟩ = some (.int .i64 v) ∧ w'.cell? ⟨K, 1, none⟩ = some (.int .i64 u) ∧ w'.cell? ⟨K, 2, none⟩ = some (.int .i64 0))
          (first | go_keep | (go_split_ands; and_intros <;> (first | (refine cell_later (by assumption) ?_; first | assumption | (rw [Qt.cell (qt_of _ _)]; assumption) | (rw [Qt.cell (qt_drew _)]; assumption)) | (refine cell_later (bel_new _ _) ?_; assumption))) | (refine cell_later (by assumption) ?_; first | assumption | (rw [Qt.cell (qt_of _ _)]; assumption) | (rw [Qt.cell (qt_drew _)]; assumption)) | (refine cell_later (bel_new _ _) ?_; assumption))
          ((go_at_call 57; (with_reducible refine (less_is true HLS.out _).mono ?_); rintro e w5 ⟨rfl, b5⟩))
        all_goals
          go_wp2_with fail
          go_roundw
          case rel => exact ⟨i + 1, by go_num, by omega, HN2, hid (by repeat (first | exact HBr.out | refine Bl.new ?_ _ | refine Bl.call ?_ (by assumption) | refine Bl.qt ?_ (by assumption) | refine Bl.qt ?_ (qt_drew _) | refine Bl.qt ?_ (qt_of _ _)))⟩
          case measure => simp [intOf]; omega
      | false =>
        have HEE := hid (HEN.out hls)
        have HLS := hid hls
        clear hls HNX HEN
        go_wp2_with fail
        go_region_held3 (fun w' => w'.cell? ⟨b6, o6 + i * 3, none⟩ = some (.int .i64 px) ∧ w'.cell? ⟨b6, o6 + i * 3 + 1, none⟩ = some (.int .i64 py) ∧ w'.cell? ⟨b6, o6 + i * 3 + 2, none⟩ = some (.int .i64 pt) ∧ w'.cell? ⟨K, 0, none⟩ = some (.int .i64 v) ∧ w'.cell? ⟨K, 1, none⟩ = some (.int .i64 u) ∧ w'.cell? ⟨K, 2, none⟩ = some (.int .i64 0))
          (first | go_keep | (go_split_ands; and_intros <;> (first | (refine cell_later (by assumption) ?_; first | assumption | (rw [Qt.cell (qt_of _ _)]; assumption) | (rw [Qt.cell (qt_drew _)]; assumption)) | (refine cell_later (bel_new _ _) ?_; assumption))) | (refine cell_later (by assumption) ?_; first | assumption | (rw [Qt.cell (qt_of _ _)]; assumption) | (rw [Qt.cell (qt_drew _)]; assumption)) | (refine cell_later (bel_new _ _) ?_; assumption))
          ((go_at_call 57; (with_reducible refine (less_is false HLS.out _).mono ?_); rintro e w5 ⟨rfl, b5⟩))
        all_goals
          have B95 : Below wr.heap.size wr w5 := Bl.call (Bl.qt (Below.refl _ _) (by first | exact qt_drew _ | exact qt_of _ _ | exact Qt.refl _)) b5
          have D5 := hid (Dr.out.on B95)
          have HB6 := hid (Bl.call HB5.out B95)
          have HBW := hid B95
          clear k0 k1 k2 q0 q1 q2 b5 B95
          have k0 := D5.out.cell 0
          have k1 := D5.out.cell 1
          have k2 := D5.out.cell 2
          go_wp2_with fail
          refine wp_region_held_drew (S := fun w' => w'.cell? ⟨K, 0, none⟩ = some (.int .i64 v) ∧ w'.cell? ⟨K, 1, none⟩ = some (.int .i64 u) ∧ w'.cell? ⟨K, 2, none⟩ = some (.int .i64 0)) (by kernel_rfl) ⟨k0, k1, k2⟩ (fun hHeld => ?_)
          refine wpAnyH_take (i := 0) (oi := _) (v := ?rv29) rfl (by kernel_rfl) (by kernel_rfl) (by kernel_rfl) (fun _ _ _ h => h) (Or.inl ⟨by rfl, ?ry29⟩) (by assumption) ?rr29
          case ry29 => (intro w hSw; (try dsimp only at hSw); go_simp; try (with_reducible rfl))
          (try simp only [Act.put, putL])
          refine wpAnyH_take (i := 1) (oi := _) (v := ?rv30) rfl (by kernel_rfl) (by kernel_rfl) (by kernel_rfl) (fun _ _ _ h => h) (Or.inl ⟨by rfl, ?ry30⟩) (by assumption) ?rr30
          case ry30 => (intro w hSw; (try dsimp only at hSw); go_simp; try (with_reducible rfl))
          (try simp only [Act.put, putL])
          refine wpAnyH_take (i := 2) (oi := _) (v := ?rv31) rfl (by kernel_rfl) (by kernel_rfl) (by kernel_rfl) (fun _ _ _ h => h) (Or.inl ⟨by rfl, ?ry31⟩) (by assumption) ?rr31
          case ry31 => (intro w hSw; refine exec_take (A := (some ⟨b6, o6, none⟩)) (n := m) (c := c) (kk := i) (x := .tmp 65) (k := .tmp 66) Tedg ?_ ?_ ?_ HIC.out _ <;> rfl)
          (try simp only [Act.put, putL])
          refine wpAnyH_take (i := 3) (oi := _) (v := ?rv32) rfl (by kernel_rfl) (by kernel_rfl) (by kernel_rfl) (fun _ _ _ h => h) (Or.inl ⟨by rfl, ?ry32⟩) (by assumption) ?rr32
          case ry32 => (intro w hSw; obtain ⟨g0, g1, g2⟩ := hSw; go_simp; try (with_reducible rfl))
          (try simp only [Act.put, putL])
          refine wpAnyH_take (i := 5) (oi := _) (v := ?rv33) rfl (by kernel_rfl) (by kernel_rfl) (by kernel_rfl) (fun _ _ _ h => h) (Or.inl ⟨by rfl, ?ry33⟩) (by assumption) ?rr33
          case ry33 => (intro w hSw; (try dsimp only at hSw); go_simp; try (with_reducible rfl))
          (try simp only [Act.put, putL])
          refine wpAnyH_take (i := 6) (oi := _) (v := ?rv34) rfl (by kernel_rfl) (by kernel_rfl) (by kernel_rfl) (fun _ _ _ h => h) (Or.inl ⟨by rfl, ?ry34⟩) (by assumption) ?rr34
          case ry34 => (intro w hSw; (try dsimp only at hSw); go_simp; try (with_reducible rfl))
          (try simp only [Act.put, putL])
          refine wpAnyH_take (i := 7) (oi := _) (v := ?rv35) rfl (by kernel_rfl) (by kernel_rfl) (by kernel_rfl) (fun _ _ _ h => h) (Or.inl ⟨by rfl, ?ry35⟩) (by assumption) ?rr35
          case ry35 => (intro w hSw; refine exec_drop (A := (some ⟨b6, o6, none⟩)) (n := m) (c := c) (kk := i) (zz := (i : Int)) (x := .tmp 70) (k := .tmp 71) Tedg ?_ ?_ ?_ rfl HIM.out _ <;> rfl)
          (try simp only [Act.put, putL])
          refine wpAnyH_ready (rs := [4]) (by kernel_rfl) (by simp) ?_
          refine AllReadyH.cons (o := _) rfl (fun K hK => ?_) ?_
          · go_simp
            refine hK.out _ _ ?_ (fun hHeld => ?_)
            · (first | go_keep | (go_split_ands; and_intros <;> (first | (refine cell_later (by assumption) ?_; first | assumption | (rw [Qt.cell (qt_of _ _)]; assumption) | (rw [Qt.cell (qt_drew _)]; assumption)) | (refine cell_later (bel_new _ _) ?_; assumption))) | (refine cell_later (by assumption) ?_; first | assumption | (rw [Qt.cell (qt_of _ _)]; assumption) | (rw [Qt.cell (qt_drew _)]; assumption)) | (refine cell_later (bel_new _ _) ?_; assumption))
            clear hK K
            (try simp only [Act.put, putL])
            refine wpAnyH_ready (rs := [8]) (by kernel_rfl) (by simp) ?_
            refine AllReadyH.cons (o := _) rfl (fun K hK => ?_) ?_
            · go_simp
              refine hK.out _ _ ?_ (fun hHeld => ?_)
              · (first | go_keep | (go_split_ands; and_intros <;> (first | (refine cell_later (by assumption) ?_; first | assumption | (rw [Qt.cell (qt_of _ _)]; assumption) | (rw [Qt.cell (qt_drew _)]; assumption)) | (refine cell_later (bel_new _ _) ?_; assumption))) | (refine cell_later (by assumption) ?_; first | assumption | (rw [Qt.cell (qt_of _ _)]; assumption) | (rw [Qt.cell (qt_drew _)]; assumption)) | (refine cell_later (bel_new _ _) ?_; assumption))
              clear hK K
              (try simp only [Act.put, putL])
              refine wpAnyH_ready (rs := [9]) (by kernel_rfl) (by simp) ?_
              refine AllReadyH.cons (o := _) rfl (fun K hK => ?_) ?_
              · go_simp
                go_at_call 55
                have BA : Below w5.heap.size w5 (w5.drew.alloc (.cells #[.int .i64 v, .int .i64 u, .int .i64 0] 35)) := Bl.new (Bl.qt (Below.refl _ _) (qt_drew _)) _
                have BW : Below wr.heap.size wr (w5.drew.alloc (.cells #[.int .i64 v, .int .i64 u, .int .i64 0] 35)) := Bl.call HBW.out BA
                have S1 : Sl (w5.drew.alloc (.cells #[.int .i64 v, .int .i64 u, .int .i64 0] 35)) (w5.drew.alloc (.cells #[.int .i64 v, .int .i64 u, .int .i64 0] 35)).heap.size 3 (.slice (some ⟨w5.heap.size, 0, none⟩) 1 1) 1 (eds [(v, u, 0)]) := (Blk.new w5.drew 35 [.int .i64 v, .int .i64 u, .int .i64 0]).sl (sz := 3) (by simp) (Nat.le_refl _) (by unfold maxLen; omega) rfl
                have hK3 : (w5.drew.alloc (.cells #[.int .i64 v, .int .i64 u, .int .i64 0] 35)).heap.size = w5.heap.size + 1 := by simp
                have D3 : Blk ((w5.drew.alloc (.cells #[.int .i64 v, .int .i64 u, .int .i64 0] 35)).alloc (.cells #[.slice (cutA (some ⟨b6, o6, none⟩) c 0 3) i c, .slice (some ⟨w5.heap.size, 0, none⟩) 1 1, .slice (cutA (some ⟨b6, o6, none⟩) c i 3) (m - i) (c - i)] 26)) (w5.heap.size + 1) 26 [.slice (cutA (some ⟨b6, o6, none⟩) c 0 3) i c, .slice (some ⟨w5.heap.size, 0, none⟩) 1 1, .slice (cutA (some ⟨b6, o6, none⟩) c i 3) (m - i) (c - i)] := by rw [← hK3]; exact Blk.new _ _ _
                have P3 : PartsAt ((w5.drew.alloc (.cells #[.int .i64 v, .int .i64 u, .int .i64 0] 35)).alloc (.cells #[.slice (cutA (some ⟨b6, o6, none⟩) c 0 3) i c, .slice (some ⟨w5.heap.size, 0, none⟩) 1 1, .slice (cutA (some ⟨b6, o6, none⟩) c i 3) (m - i) (c - i)] 26)) [.slice (cutA (some ⟨b6, o6, none⟩) c 0 3) i c, .slice (some ⟨w5.heap.size, 0, none⟩) 1 1, .slice (cutA (some ⟨b6, o6, none⟩) c i 3) (m - i) (c - i)] [l.take i, [(v, u, 0)], l.drop i] := parts3 (Sl.new (U1.out _ BW) _) (Sl.new S1 _) (Sl.new (U2.out _ BW) _)
                refine (concat_any (k := 3) D3 rfl P3 HE2.out (by decide) rfl).mono ?_
                rintro e w9 ⟨v9, rfl, s9, b9⟩
                refine hK.out _ _ ?_ (fun hHeld => ?_)
                · (first | go_keep | (go_split_ands; and_intros <;> (first | (refine cell_later (by assumption) ?_; first | assumption | (rw [Qt.cell (qt_of _ _)]; assumption) | (rw [Qt.cell (qt_drew _)]; assumption)) | (refine cell_later (bel_new _ _) ?_; assumption))) | (refine cell_later (by assumption) ?_; first | assumption | (rw [Qt.cell (qt_of _ _)]; assumption) | (rw [Qt.cell (qt_drew _)]; assumption)) | (refine cell_later (bel_new _ _) ?_; assumption))
                clear hK K
                (try simp only [Act.put, putL])
                refine wpAnyH_ready (rs := [10]) (by kernel_rfl) (by simp) ?_
                refine AllReadyH.cons (o := _) rfl (fun K hK => ?_) ?_
                · go_simp
                  refine hK.out _ _ ?_ (fun hHeld => ?_)
                  · (first | go_keep | (go_split_ands; and_intros <;> (first | (refine cell_later (by assumption) ?_; first | assumption | (rw [Qt.cell (qt_of _ _)]; assumption) | (rw [Qt.cell (qt_drew _)]; assumption)) | (refine cell_later (bel_new _ _) ?_; assumption))) | (refine cell_later (by assumption) ?_; first | assumption | (rw [Qt.cell (qt_of _ _)]; assumption) | (rw [Qt.cell (qt_drew _)]; assumption)) | (refine cell_later (bel_new _ _) ?_; assumption))
                  clear hK K
                  (try simp only [Act.put, putL])
                  refine wpAnyH_ready (rs := [11]) (by kernel_rfl) (by simp) ?_
                  refine AllReadyH.cons (o := _) rfl (fun K hK => ?_) ?_
                  · go_simp
                    refine hK.out _ _ ?_ (fun hHeld => ?_)
                    · (first | go_keep | (go_split_ands; and_intros <;> (first | (refine cell_later (by assumption) ?_; first | assumption | (rw [Qt.cell (qt_of _ _)]; assumption) | (rw [Qt.cell (qt_drew _)]; assumption)) | (refine cell_later (bel_new _ _) ?_; assumption))) | (refine cell_later (by assumption) ?_; first | assumption | (rw [Qt.cell (qt_of _ _)]; assumption) | (rw [Qt.cell (qt_drew _)]; assumption)) | (refine cell_later (bel_new _ _) ?_; assumption))
                    clear hK K
                    (try simp only [Act.put, putL])
                    refine wpAnyH_done (by kernel_rfl) ?_ _
                    go_wp2
                    go_ret2
                    exact ⟨v9, rfl, by rw [← HEE.out]; exact own_more s9 (Bl.new (Bl.call HB6.out BA) _).size, Bl.call (Bl.new (Bl.call HB6.out BA) _) b9⟩
                  exact AllReadyH.nil
                exact AllReadyH.nil
              exact AllReadyH.nil
            exact AllReadyH.nil
          exact AllReadyH.nil
    case neg =>
      have j0 : ¬ (i : Int) < (m : Int) := by omega
      obtain rfl : i = m := by omega
      have HEE : Hid ([l.take i, [(v, u, (0 : Int))], l.drop i].flatten = Tp.addF l u v) := hid (by
        obtain ⟨g1, g2⟩ := lsB_low2 l (v, u, 0) i (by rw [HL.out]; exact Nat.le_refl _) HP.out (fun h => absurd h (by rw [HL.out]; omega))
        unfold Tp.addF
        rw [HNE.out, g1, g2]; simp)
      go_wp2_with fail
      go_quiet (fail)
      rename_i nq
      obtain ⟨w5, hw5⟩ : ∃ W, W = wr.drewN nq := ⟨_, rfl⟩
      have B95 : Below wr.heap.size wr w5 := by rw [hw5]; exact (qt_of _ _).bel
      rw [← hw5]
      have HW5 := hid hw5
      clear hw5
      have D5 := hid (Dr.out.on B95)
      have HB6 := hid (Bl.call HB5.out B95)
      have HBW := hid B95
      clear k0 k1 k2 B95
      have k0 := D5.out.cell 0
      have k1 := D5.out.cell 1
      have k2 := D5.out.cell 2
      go_wp2_with fail
      refine wp_region_held_drew (S := fun w' => w'.cell? ⟨K, 0, none⟩ = some (.int .i64 v) ∧ w'.cell? ⟨K, 1, none⟩ = some (.int .i64 u) ∧ w'.cell? ⟨K, 2, none⟩ = some (.int .i64 0)) (by kernel_rfl) ⟨k0, k1, k2⟩ (fun hHeld => ?_)
      refine wpAnyH_take (i := 0) (oi := _) (v := ?rv22) rfl (by kernel_rfl) (by kernel_rfl) (by kernel_rfl) (fun _ _ _ h => h) (Or.inl ⟨by rfl, ?ry22⟩) (by assumption) ?rr22
      case ry22 => (intro w hSw; (try dsimp only at hSw); go_simp; try (with_reducible rfl))
      (try simp only [Act.put, putL])
      refine wpAnyH_take (i := 1) (oi := _) (v := ?rv23) rfl (by kernel_rfl) (by kernel_rfl) (by kernel_rfl) (fun _ _ _ h => h) (Or.inl ⟨by rfl, ?ry23⟩) (by assumption) ?rr23
      case ry23 => (intro w hSw; (try dsimp only at hSw); go_simp; try (with_reducible rfl))
      (try simp only [Act.put, putL])
      refine wpAnyH_take (i := 2) (oi := _) (v := ?rv24) rfl (by kernel_rfl) (by kernel_rfl) (by kernel_rfl) (fun _ _ _ h => h) (Or.inl ⟨by rfl, ?ry24⟩) (by assumption) ?rr24
      case ry24 => (intro w hSw; refine exec_take (A := A) (n := i) (c := c) (kk := i) (x := .tmp 65) (k := .tmp 66) Tedg ?_ ?_ ?_ HIC.out _ <;> rfl)
      (try simp only [Act.put, putL])
      refine wpAnyH_take (i := 3) (oi := _) (v := ?rv25) rfl (by kernel_rfl) (by kernel_rfl) (by kernel_rfl) (fun _ _ _ h => h) (Or.inl ⟨by rfl, ?ry25⟩) (by assumption) ?rr25
      case ry25 => (intro w hSw; obtain ⟨g0, g1, g2⟩ := hSw; go_simp; try (with_reducible rfl))
      (try simp only [Act.put, putL])
      refine wpAnyH_take (i := 5) (oi := _) (v := ?rv26) rfl (by kernel_rfl) (by kernel_rfl) (by kernel_rfl) (fun _ _ _ h => h) (Or.inl ⟨by rfl, ?ry26⟩) (by assumption) ?rr26
      case ry26 => (intro w hSw; (try dsimp only at hSw); go_simp; try (with_reducible rfl))
      (try simp only [Act.put, putL])
      refine wpAnyH_take (i := 6) (oi := _) (v := ?rv27) rfl (by kernel_rfl) (by kernel_rfl) (by kernel_rfl) (fun _ _ _ h => h) (Or.inl ⟨by rfl, ?ry27⟩) (by assumption) ?rr27
      case ry27 => (intro w hSw; (try dsimp only at hSw); go_simp; try (with_reducible rfl))
      (try simp only [Act.put, putL])
      refine wpAnyH_take (i := 7) (oi := _) (v := ?rv28) rfl (by kernel_rfl) (by kernel_rfl) (by kernel_rfl) (fun _ _ _ h => h) (Or.inl ⟨by rfl, ?ry28⟩) (by assumption) ?rr28
      case ry28 => (intro w hSw; refine exec_drop (A := A) (n := i) (c := c) (kk := i) (zz := (i : Int)) (x := .tmp 70) (k := .tmp 71) Tedg ?_ ?_ ?_ rfl HIM.out _ <;> rfl)
      (try simp only [Act.put, putL])
      refine wpAnyH_ready (rs := [4]) (by kernel_rfl) (by simp) ?_
      refine AllReadyH.cons (o := _) rfl (fun K hK => ?_) ?_
      · go_simp
        refine hK.out _ _ ?_ (fun hHeld => ?_)
        · (first | go_keep | (go_split_ands; and_intros <;> (first | (refine cell_later (by assumption) ?_; first | assumption | (rw [Qt.cell (qt_of _ _)]; assumption) | (rw [Qt.cell (qt_drew _)]; assumption)) | (refine cell_later (bel_new _ _) ?_; assumption))) | (refine cell_later (by assumption) ?_; first | assumption | (rw [Qt.cell (qt_of _ _)]; assumption) | (rw [Qt.cell (qt_drew _)]; assumption)) | (refine cell_later (bel_new _ _) ?_; assumption))
        clear hK K
        (try simp only [Act.put, putL])
        refine wpAnyH_ready (rs := [8]) (by kernel_rfl) (by simp) ?_
        refine AllReadyH.cons (o := _) rfl (fun K hK => ?_) ?_
        · go_simp
          refine hK.out _ _ ?_ (fun hHeld => ?_)
          · (first | go_keep | (go_split_ands; and_intros <;> (first | (refine cell_later (by assumption) ?_; first | assumption | (rw [Qt.cell (qt_of _ _)]; assumption) | (rw [Qt.cell (qt_drew _)]; assumption)) | (refine cell_later (bel_new _ _) ?_; assumption))) | (refine cell_later (by assumption) ?_; first | assumption | (rw [Qt.cell (qt_of _ _)]; assumption) | (rw [Qt.cell (qt_drew _)]; assumption)) | (refine cell_later (bel_new _ _) ?_; assumption))
          clear hK K
          (try simp only [Act.put, putL])
          refine wpAnyH_ready (rs := [9]) (by kernel_rfl) (by simp) ?_
          refine AllReadyH.cons (o := _) rfl (fun K hK => ?_) ?_
          · go_simp
            go_at_call 55
            have BA : Below w5.heap.size w5 (w5.alloc (.cells #[.int .i64 v, .int .i64 u, .int .i64 0] 35)) := Bl.new (Below.refl _ _) _
            have BW : Below wr.heap.size wr (w5.alloc (.cells #[.int .i64 v, .int .i64 u, .int .i64 0] 35)) := Bl.call HBW.out BA
            have S1 : Sl (w5.alloc (.cells #[.int .i64 v, .int .i64 u, .int .i64 0] 35)) (w5.alloc (.cells #[.int .i64 v, .int .i64 u, .int .i64 0] 35)).heap.size 3 (.slice (some ⟨w5.heap.size, 0, none⟩) 1 1) 1 (eds [(v, u, 0)]) := (Blk.new w5 35 [.int .i64 v, .int .i64 u, .int .i64 0]).sl (sz := 3) (by simp) (Nat.le_refl _) (by unfold maxLen; omega) rfl
            have hK3 : (w5.alloc (.cells #[.int .i64 v, .int .i64 u, .int .i64 0] 35)).heap.size = w5.heap.size + 1 := by simp
            have D3 : Blk ((w5.alloc (.cells #[.int .i64 v, .int .i64 u, .int .i64 0] 35)).alloc (.cells #[.slice (cutA A c 0 3) i c, .slice (some ⟨w5.heap.size, 0, none⟩) 1 1, .slice (cutA A c i 3) 0 (c - i)] 26)) (w5.heap.size + 1) 26 [.slice (cutA A c 0 3) i c, .slice (some ⟨w5.heap.size, 0, none⟩) 1 1, .slice (cutA A c i 3) 0 (c - i)] := by rw [← hK3]; exact Blk.new _ _ _
            have P3 : PartsAt ((w5.alloc (.cells #[.int .i64 v, .int .i64 u, .int .i64 0] 35)).alloc (.cells #[.slice (cutA A c 0 3) i c, .slice (some ⟨w5.heap.size, 0, none⟩) 1 1, .slice (cutA A c i 3) 0 (c - i)] 26)) [.slice (cutA A c 0 3) i c, .slice (some ⟨w5.heap.size, 0, none⟩) 1 1, .slice (cutA A c i 3) 0 (c - i)] [l.take i, [(v, u, 0)], l.drop i] := parts3 (Sl.new (U1.out _ BW) _) (Sl.new S1 _) (Sl.new (by have h := U2.out _ BW; rw [Nat.sub_self] at h; exact h) _)
            refine (concat_any (k := 3) (D3.on (qt_drew _).bel) rfl (PartsAt.call P3 (qt_drew _).bel) HE2.out (by decide) rfl).mono ?_
            rintro e w9 ⟨v9, rfl, s9, b9⟩
            refine hK.out _ _ ?_ (fun hHeld => ?_)
            · (first | go_keep | (go_split_ands; and_intros <;> (first | (refine cell_later (by assumption) ?_; first | assumption | (rw [Qt.cell (qt_of _ _)]; assumption) | (rw [Qt.cell (qt_drew _)]; assumption)) | (refine cell_later (bel_new _ _) ?_; assumption))) | (refine cell_later (by assumption) ?_; first | assumption | (rw [Qt.cell (qt_of _ _)]; assumption) | (rw [Qt.cell (qt_drew _)]; assumption)) | (refine cell_later (bel_new _ _) ?_; assumption))
            clear hK K
            (try simp only [Act.put, putL])
            refine wpAnyH_ready (rs := [10]) (by kernel_rfl) (by simp) ?_
            refine AllReadyH.cons (o := _) rfl (fun K hK => ?_) ?_
            · go_simp
              refine hK.out _ _ ?_ (fun hHeld => ?_)
              · (first | go_keep | (go_split_ands; and_intros <;> (first | (refine cell_later (by assumption) ?_; first | assumption | (rw [Qt.cell (qt_of _ _)]; assumption) | (rw [Qt.cell (qt_drew _)]; assumption)) | (refine cell_later (bel_new _ _) ?_; assumption))) | (refine cell_later (by assumption) ?_; first | assumption | (rw [Qt.cell (qt_of _ _)]; assumption) | (rw [Qt.cell (qt_drew _)]; assumption)) | (refine cell_later (bel_new _ _) ?_; assumption))
              clear hK K
              (try simp only [Act.put, putL])
              refine wpAnyH_ready (rs := [11]) (by kernel_rfl) (by simp) ?_
              refine AllReadyH.cons (o := _) rfl (fun K hK => ?_) ?_
              · go_simp
                refine hK.out _ _ ?_ (fun hHeld => ?_)
                · (first | go_keep | (go_split_ands; and_intros <;> (first | (refine cell_later (by assumption) ?_; first | assumption | (rw [Qt.cell (qt_of _ _)]; assumption) | (rw [Qt.cell (qt_drew _)]; assumption)) | (refine cell_later (bel_new _ _) ?_; assumption))) | (refine cell_later (by assumption) ?_; first | assumption | (rw [Qt.cell (qt_of _ _)]; assumption) | (rw [Qt.cell (qt_drew _)]; assumption)) | (refine cell_later (bel_new _ _) ?_; assumption))
                clear hK K
                (try simp only [Act.put, putL])
                refine wpAnyH_done (by kernel_rfl) ?_ _
                go_wp2
                go_ret2
                exact ⟨v9, rfl, by rw [← HEE.out]; exact own_more s9 (Bl.new (Bl.call HB6.out BA) _).size, Bl.call (Bl.qt (Bl.new (Bl.call HB6.out BA) _) (qt_drew _)) b9⟩
              exact AllReadyH.nil
            exact AllReadyH.nil
          exact AllReadyH.nil
        exact AllReadyH.nil
      exact AllReadyH.nil
end Go.Proofs.YtahodfikhocobaaGreatDoor
