/- The walk of the law DictTells. -/
import Derived.Test.YtkkhghipbnpiaaaDicV
import Derived.Test.YtkkhghipbnpiaaaDicK2
import Derived.Deep.DeepCutAuto
import Derived.Deep.Cut
namespace Go.Proofs.Ytkkhghipbnpiaaa
open Go.RowKit Sq
set_option linter.unusedVariables false
attribute [local go_sem ↓] Go.wp_at_zero Go.wp_at_succ

/-- A row of pairs lies in another block than a variable of one cell. -/
theorem Sl.other {w : World} {B K n : Nat} {T : TypeId} {u v : Value} {l : List (Int × Int)} (h : Sl w B 2 v n (prs l)) (hb : Blk w K T [u]) (u' : Value) : Sl (w.setCell ⟨K, 0, none⟩ u') B 2 v n (prs l) := by
  have hl : l.length = n := by have := h.len; rw [len_prs] at this; omega
  obtain ⟨A, c, rfl, hnc, hcm, hll, hx⟩ := h
  refine ⟨A, c, rfl, hnc, hcm, hll, fun h0 => ?_⟩
  obtain ⟨b, o, rfl, hlt, hc⟩ := hx h0
  have h1 := (prs_cell hc (k := 0) (by omega)).2
  have hne : b ≠ K := by
    rintro rfl
    rw [hb.cell] at h1
    simp at h1
  exact ⟨b, o, rfl, hlt, fun j u hu => (World.cell?_of_block (w := w) (Below.heap_setCell w _ _ b hne)).trans (hc j u hu)⟩
theorem Blk.later {w w' : World} {K : Nat} {T : TypeId} {cs : List Value} (h : Blk w K T cs) (hb : Below w.heap.size w w') : Blk w' K T cs := h.below hb h.lt
theorem Blk.give {w : World} {K : Nat} {T : TypeId} {cs : List Value} {P : Prop} (h : Blk w K T cs) (f : Blk w K T cs → P) : P := f h
theorem Blk.put1 {w : World} {K : Nat} {T : TypeId} {u : Value} (h : Blk w K T [u]) (u' : Value) : Blk (w.setCell ⟨K, 0, none⟩ u') K T [u'] := h.put 0 u'
theorem Sl.top_set {w : World} {sz n : Nat} {v u : Value} {p : Addr} {xs : List Value} (h : Sl (w.setCell p u) w.heap.size sz v n xs) : Sl (w.setCell p u) (w.setCell p u).heap.size sz v n xs := h.more (by simp [World.setCell])

set_option maxRecDepth 100000 in
set_option maxHeartbeats 8000000 in
theorem dictTells_walk (v : Value) (nn : Nat) (cs : List (Bool × Int × Int)) (key : Int) (w : World) (hs : Sl w w.heap.size 3 v nn (acs cs)) :
    Calls Try.prog 3 #[v, .int .u64 key] w (IsTrue w) := by
  have hn : cs.length = nn := by have := hs.len; rw [len_acs] at this; omega
  obtain ⟨A, c, rfl, hnc, hcm, hll, hx⟩ := hs
  have HS : Hid (Sl w w.heap.size 3 (.slice A nn c) nn (acs cs)) := hid ⟨A, c, rfl, hnc, hcm, hll, hx⟩
  have HN := hid hn
  clear hn hx hll
  by_cases g1 : (60 : Int) < nn
  · go_enter Try.func3, Try.ntmps3
    go_wp2_with fail
    refine (dAwake_any _).mono ?_; rintro e w' ⟨rfl, hb⟩
    go_wp2
    go_ret
    exact ⟨rfl, hb⟩
  have HB : Hid (Below w.heap.size w w) := hid (Below.refl _ _)
  have I_z : Hid (IsD w none []) := hid (IsD.none_ _)
  go_enter Try.func3, Try.ntmps3
  obtain ⟨w1, hw⟩ : ∃ w1, w1 = w.alloc (.cells #[.pointer none] 27) := ⟨_, rfl⟩
  obtain ⟨Kd, hK⟩ : ∃ Kd, Kd = w.heap.size := ⟨_, rfl⟩
  have b : Below w.heap.size w w1 := by rw [hw]; exact bel_new _ _
  have D_d' : Hid (Blk w1 Kd 27 [.pointer none]) := hid (by rw [hw, hK]; exact Blk.new w _ [.pointer none])
  have I_d' := hid (I_z.out.call b)
  have LO_d : Hid (w.heap.size ≤ Kd) := hid (by rw [hK]; exact HB.out.size)
  replace HB := hid (Bl.call HB.out b)
  have D_d := D_d'
  have I_d := I_d'
  have HW1 := hid hw
  have HK1 := hid hK
  clear b hw hK D_d' I_d' I_z
  go_wp2_with fail
  rw [← HK1.out, ← HW1.out]
  go_loopw [6, 28] (fun lv i wr => ∃ (j : Nat) (pt : Option Addr), i = .int .i64 (j : Int) ∧ j ≤ nn ∧ Hid (Sl wr wr.heap.size 2 lv (acts (cs.take j)).length (prs (acts (cs.take j)))) ∧ Hid (Blk wr Kd 27 [.pointer pt]) ∧ Hid (IsD wr pt (acts (cs.take j))) ∧ Hid (Below w.heap.size w wr)) (fun _ i _ => nn - (intOf i).toNat)
  case atStart => exact ⟨0, none, rfl, Nat.zero_le _, hid (Sl.none_ _ _ _), D_d, I_d, HB⟩
  case round =>
    clear D_d I_d HB
    obtain ⟨j, pt, rfl, hj, S_l, D_d, I_d, HB⟩ := hrel
    by_cases hlt : j < nn
    · have hi0 : (j : Int) < (nn : Int) := by omega
      obtain ⟨bk, o, rfl, q0, q1, q2⟩ := sl_cells HS.out HB.out hlt HN.out
      have HAC := hid (acts_snoc cs j (by rw [HN.out]; exact hlt))
      have hlen : (acts (cs.take j)).length ≤ 60 := by have := len_acts (cs.take j); rw [List.length_take] at this; omega
      have hsr := srt_acts (cs.take j)
      have hjl : j < cs.length := by rw [HN.out]; exact hlt
      obtain ⟨a, ha⟩ : ∃ a, a = cs[j] := ⟨_, rfl⟩
      rw [← ha] at q0 q1 q2 HAC
      clear ha hjl
      obtain ⟨L, hL⟩ : ∃ L, L = acts (cs.take j) := ⟨_, rfl⟩
      rw [← hL] at S_l I_d hlen HAC hsr
      clear hL
      have HLN := hid hlen
      have HSR := hid hsr
      clear hlen hsr
      obtain ⟨fl, k, m⟩ := a
      dsimp only at q0 q1 q2
      obtain ⟨lo, rfl⟩ : ∃ lo, lo = u6 := ⟨_, rfl⟩
      have LTd : Hid (Kd < wr.heap.size) := hid D_d.out.lt
      obtain ⟨w1, hw⟩ : ∃ w1, w1 = wr.alloc (.cells #[.bool fl, .int .u64 k, .int .i64 m] 30) := ⟨_, rfl⟩
      have b : Below wr.heap.size wr w1 := by rw [hw]; exact bel_new _ _
      replace D_d := hid (D_d.out.below b D_d.out.lt)
      replace I_d := hid (I_d.out.call b)
      replace S_l := hid (S_l.out.call b)
      replace HB := hid (Bl.call HB.out b)
      have HW1 := hid hw
      clear b hw
      obtain ⟨KA, hKA⟩ : ∃ KA, KA = wr.heap.size := ⟨_, rfl⟩
      have HKA := hid hKA
      have NDA : Hid (Kd ≠ KA ∧ KA ≠ Kd) := hid (by have := LTd.out; omega)
      have D_A : Hid (Blk w1 KA 30 [.bool fl, .int .u64 k, .int .i64 m]) := hid (by rw [HW1.out, hKA]; exact Blk.new _ _ _)
      clear hKA
      have c_d : (wr.alloc (.cells #[.bool fl, .int .u64 k, .int .i64 m] 30)).cell? ⟨Kd, 0, none⟩ = some (.pointer pt) := by rw [← HW1.out]; exact D_d.out.cell 0
      have f_d : (wr.alloc (.cells #[.bool fl, .int .u64 k, .int .i64 m] 30)).frozen? ⟨Kd, 0, none⟩ = false := by rw [← HW1.out]; exact D_d.out.frozen 0
      go_upto_if 35 with (fail)
      clear c_d f_d
      have I_s := I_d
      have HW1c := HW1
      obtain ⟨w2, hw⟩ : ∃ w2, w2 = w1.alloc (.cells #[.pointer pt] 27) := ⟨_, rfl⟩
      obtain ⟨Kw, hK⟩ : ∃ Kw, Kw = w1.heap.size := ⟨_, rfl⟩
      have b : Below w1.heap.size w1 w2 := by rw [hw]; exact bel_new _ _
      have D_x' : Hid (Blk w2 Kw 27 [.pointer pt]) := hid (by rw [hw, hK]; exact Blk.new w1 _ [.pointer pt])
      have I_x' := hid (I_s.out.call b)
      have LO_x : Hid (w.heap.size ≤ Kw) := hid (by rw [hK]; exact HB.out.size)
      have NEdx : Hid (Kd ≠ Kw) := hid (by have := D_d.out.lt; omega)
      have NExd : Hid (Kw ≠ Kd) := hid (by have := D_d.out.lt; omega)
      replace D_d := hid (D_d.out.below b D_d.out.lt)
      replace I_d := hid (I_d.out.call b)
      replace S_l := hid (S_l.out.call b)
      replace HB := hid (Bl.call HB.out b)
      have D_x := D_x'
      have I_x := I_x'
      have HW2 := hid hw
      have HK2 := hid hK
      clear b hw hK D_x' I_x' I_s
      have HKw : Hid (Kw = wr.heap.size + 1) := hid (by rw [HK2.out, HW1.out]; simp)
      have D_A2 : Hid (Blk w2 KA 30 [.bool fl, .int .u64 k, .int .i64 m]) := hid (D_A.out.below (by rw [HW2.out]; exact bel_new _ _) D_A.out.lt)
      rw [← HKw.out, ← HKA.out, ← HW1.out, ← HW2.out]
      have LO_d : Hid (w.heap.size ≤ Kd) := hid (by rw [HK1.out]; exact Nat.le_refl _)
      clear D_A HW1c q0 q1 q2
      go_cut [6] (fun s6 wx => ∃ v1, Hid (Sl wx wx.heap.size 2 s6 (act L (fl, k, m)).length (prs (act L (fl, k, m)))) ∧ Hid (Blk wx Kd 27 [.pointer v1]) ∧ Hid (IsD wx v1 (act L (fl, k, m))) ∧ Hid (Blk wx Kw 27 [.pointer pt]) ∧ Hid (IsD wx pt L) ∧ Hid (Sl wx wx.heap.size 2 lo L.length (prs L)) ∧ Hid (Blk wx KA 30 [.bool fl, .int .u64 k, .int .i64 m]) ∧ Hid (Below w.heap.size w wx))
      case first =>
        cases fl with
        | true =>
          have LL : Hid (L.length ≤ 100000) := hid (by have := HLN.out; omega)
          obtain ⟨z, hz⟩ : ∃ z, z = (Dc.get L k).getD 0 := ⟨_, rfl⟩
          obtain ⟨s, hs⟩ : ∃ s, s = (Dc.get L k).isSome := ⟨_, rfl⟩
          have HZ := hid hz
          have HS1 := hid hs
          clear hz hs
          have r6 : (s != s) = false := by simp
          have c_A : w2.cell? ⟨KA, 1, none⟩ = some (.int .u64 k) := D_A2.out.cell 1
          have c_d : w2.cell? ⟨Kd, 0, none⟩ = some (.pointer pt) := D_d.out.cell 0
          have f_d : w2.frozen? ⟨Kd, 0, none⟩ = false := D_d.out.frozen 0
          have c_x : w2.cell? ⟨Kw, 0, none⟩ = some (.pointer pt) := D_x.out.cell 0
          have f_x : w2.frozen? ⟨Kw, 0, none⟩ = false := D_x.out.frozen 0
          go_wp2_with fail
          refine (rget_any (k := k) S_l.out z s HZ.out.symm HS1.out.symm).mono ?_; rintro e w' ⟨rfl, rfl⟩
          go_wp2_with fail
          clear c_d f_d c_x f_x
          clear c_A
          refine (delete_is (l := L) (k := k) I_d.out LL.out (Dc.del L k) s rfl HS1.out.symm).mono ?_; rintro e w3 ⟨v2, rfl, i, bb⟩
          replace D_d := hid (D_d.out.below bb D_d.out.lt)
          replace I_d := hid (I_d.out.call bb)
          replace D_x := hid (D_x.out.below bb D_x.out.lt)
          replace I_x := hid (I_x.out.call bb)
          replace S_l := hid (S_l.out.call bb)
          replace D_A2 := hid (D_A2.out.below bb D_A2.out.lt)
          replace HB := hid (Bl.call HB.out bb)
          have I_2 := hid i
          clear i bb
          obtain ⟨w4, hw⟩ : ∃ w4, w4 = w3.alloc (.cells #[.pointer v2] 27) := ⟨_, rfl⟩
          obtain ⟨Ke, hK⟩ : ∃ Ke, Ke = w3.heap.size := ⟨_, rfl⟩
          have b : Below w3.heap.size w3 w4 := by rw [hw]; exact bel_new _ _
          have D_e' : Hid (Blk w4 Ke 27 [.pointer v2]) := hid (by rw [hw, hK]; exact Blk.new w3 _ [.pointer v2])
          have I_e' := hid (I_2.out.call b)
          have LO_e : Hid (w.heap.size ≤ Ke) := hid (by rw [hK]; exact HB.out.size)
          have NEde : Hid (Kd ≠ Ke) := hid (by have := D_d.out.lt; omega)
          have NEed : Hid (Ke ≠ Kd) := hid (by have := D_d.out.lt; omega)
          have NExe : Hid (Kw ≠ Ke) := hid (by have := D_x.out.lt; omega)
          have NEex : Hid (Ke ≠ Kw) := hid (by have := D_x.out.lt; omega)
          replace D_d := hid (D_d.out.below b D_d.out.lt)
          replace I_d := hid (I_d.out.call b)
          replace D_x := hid (D_x.out.below b D_x.out.lt)
          replace I_x := hid (I_x.out.call b)
          replace S_l := hid (S_l.out.call b)
          replace D_A2 := hid (D_A2.out.below b D_A2.out.lt)
          replace HB := hid (Bl.call HB.out b)
          have D_e := D_e'
          have I_e := I_e'
          have HW4 := hid hw
          have HK4 := hid hK
          clear b hw hK D_e' I_e' I_2
          have c_A : (w3.alloc (.cells #[.pointer v2] 27)).cell? ⟨KA, 1, none⟩ = some (.int .u64 k) := by rw [← HW4.out]; exact D_A2.out.cell 1
          have c_d : (w3.alloc (.cells #[.pointer v2] 27)).cell? ⟨Kd, 0, none⟩ = some (.pointer pt) := by rw [← HW4.out]; exact D_d.out.cell 0
          have f_d : (w3.alloc (.cells #[.pointer v2] 27)).frozen? ⟨Kd, 0, none⟩ = false := by rw [← HW4.out]; exact D_d.out.frozen 0
          have c_x : (w3.alloc (.cells #[.pointer v2] 27)).cell? ⟨Kw, 0, none⟩ = some (.pointer pt) := by rw [← HW4.out]; exact D_x.out.cell 0
          have f_x : (w3.alloc (.cells #[.pointer v2] 27)).frozen? ⟨Kw, 0, none⟩ = false := by rw [← HW4.out]; exact D_x.out.frozen 0
          have c_e : (w3.alloc (.cells #[.pointer v2] 27)).cell? ⟨Ke, 0, none⟩ = some (.pointer v2) := by rw [← HW4.out]; exact D_e.out.cell 0
          have f_e : (w3.alloc (.cells #[.pointer v2] 27)).frozen? ⟨Ke, 0, none⟩ = false := by rw [← HW4.out]; exact D_e.out.frozen 0
          go_wp2_with fail
          rw [← HK4.out, ← HW4.out]
          clear c_d f_d c_x f_x c_e f_e
          clear c_A
          have c_A : w4.cell? ⟨KA, 1, none⟩ = some (.int .u64 k) := D_A2.out.cell 1
          have c_e : w4.cell? ⟨Ke, 0, none⟩ = some (.pointer v2) := D_e.out.cell 0
          have c_d : w4.cell? ⟨Kd, 0, none⟩ = some (.pointer pt) := D_d.out.cell 0
          have f_d : w4.frozen? ⟨Kd, 0, none⟩ = false := D_d.out.frozen 0
          obtain ⟨NdA, NAd⟩ := NDA.out
          have nxd := NExd.out
          have lod := LO_d.out
          have ned := NEed.out
          have nde := NEde.out
          have R4 : Blk w4.drew Kd 27 [.pointer pt] := D_d.out.later (qt_drew _).bel
          go_region_held3 (fun w' => w'.cell? ⟨KA, 1, none⟩ = some (.int .u64 k) ∧ w'.cell? ⟨Ke, 0, none⟩ = some (.pointer v2)) (first | go_keep | (go_split_ands; and_intros <;> (first | assumption | (refine cell_later (by assumption) ?_; assumption) | (refine cell_later (by assumption) ?_; simp [*]; done) | (simp [*]; done)))) ((go_at_call 11; (with_reducible refine (rdelete_any (v := lo) (n := L.length) (l := L) (k := k) (by repeat (first | exact S_l.out | refine Sl.call ?_ (by assumption) | refine Sl.cqt ?_ (qt_drew _) | refine Sl.top_set (Sl.other ?_ (by assumption) _))) LL.out).mono ?_); rintro e w5 ⟨v3, rfl, s3, b3⟩; (try (refine Blk.give (w := w5) (K := Kd) (T := 27) (cs := [.pointer pt]) ?_ (fun Rw5 => ?_); (((first | exact (D_d.out.later (qt_drew _).bel).later (by assumption) | exact D_d.out.later (by assumption) | exact ((D_d.out.later (qt_drew _).bel).later (by assumption)).later (by assumption)))); have z0 := Rw5.cell 0; have z1 := Rw5.frozen 0))))
          all_goals
            go_wp2_with fail
            go_meet
            exact ⟨v2, hid (by repeat (first | exact s3 | refine Sl.call ?_ (by assumption) | refine Sl.cqt ?_ (qt_drew _) | refine Sl.top_set (Sl.other ?_ (by assumption) _))), hid (by repeat (first | exact Blk.put1 (by assumption) _ | refine Blk.later ?_ (by assumption))), hid (by repeat (first | exact I_e.out | refine IsD.call ?_ (by assumption) | refine IsD.cqt ?_ (qt_drew _) | refine IsD.other ?_ (by assumption) _)), hid (by repeat (first | exact D_x.out | refine Blk.later ?_ (by assumption) | refine Blk.later ?_ (qt_drew _).bel | refine Blk.far ?_ (by assumption) _)), hid (by repeat (first | exact I_x.out | refine IsD.call ?_ (by assumption) | refine IsD.cqt ?_ (qt_drew _) | refine IsD.other ?_ (by assumption) _)), hid (by repeat (first | exact S_l.out | refine Sl.call ?_ (by assumption) | refine Sl.cqt ?_ (qt_drew _) | refine Sl.top_set (Sl.other ?_ (by assumption) _))), hid (by repeat (first | exact D_A2.out | refine Blk.later ?_ (by assumption) | refine Blk.later ?_ (qt_drew _).bel | refine Blk.far ?_ (by assumption) _)), hid (by repeat (first | exact HB.out | refine Bl.call ?_ (by assumption) | refine Bl.qt ?_ (qt_drew _) | refine Below.setCell ?_ lod _))⟩
        | false =>
          have LL : Hid (L.length ≤ 100000) := hid (by have := HLN.out; omega)
          have c_A : w2.cell? ⟨KA, 1, none⟩ = some (.int .u64 k) := D_A2.out.cell 1
          have c_A2 : w2.cell? ⟨KA, 2, none⟩ = some (.int .i64 m) := D_A2.out.cell 2
          have c_d : w2.cell? ⟨Kd, 0, none⟩ = some (.pointer pt) := D_d.out.cell 0
          have f_d : w2.frozen? ⟨Kd, 0, none⟩ = false := D_d.out.frozen 0
          obtain ⟨NdA, NAd⟩ := NDA.out
          have nxd := NExd.out
          have lod := LO_d.out
          have R2 : Blk w2.drew Kd 27 [.pointer pt] := D_d.out.later (qt_drew _).bel
          go_wp2_with fail
          have a1 : w2.drew.cell? ⟨KA, 1, none⟩ = some (.int .u64 k) := c_A
          have a2 : w2.drew.cell? ⟨KA, 2, none⟩ = some (.int .i64 m) := c_A2
          refine wp_region_held_drew (S := fun w' => w'.cell? ⟨KA, 1, none⟩ = some (.int .u64 k) ∧ w'.cell? ⟨KA, 2, none⟩ = some (.int .i64 m)) (by kernel_rfl) ⟨a1, a2⟩ (fun hHeld => ?_)
          refine wpAnyH_take (i := 1) (oi := _) (v := ?rv1) rfl (by kernel_rfl) (by kernel_rfl) (by kernel_rfl) (fun _ _ _ h => h) (Or.inl ⟨by rfl, ?ry1⟩) (by assumption) ?rr1
          case ry1 => (intro w hSw; (try dsimp only at hSw); go_simp; try (with_reducible rfl))
          (try simp only [Act.put, List.setIfInBounds_toArray, List.set_cons_zero, List.set_cons_succ, List.getElem_toArray, List.getElem_cons_succ, List.getElem_cons_zero])
          refine wpAnyH_take (i := 2) (oi := _) (v := ?rv2) rfl (by kernel_rfl) (by kernel_rfl) (by kernel_rfl) (fun _ _ _ h => h) (Or.inl ⟨by rfl, ?ry2⟩) (by assumption) ?rr2
          case ry2 => (intro w hSw; (try dsimp only at hSw); go_simp; try (with_reducible rfl))
          (try simp only [Act.put, List.setIfInBounds_toArray, List.set_cons_zero, List.set_cons_succ, List.getElem_toArray, List.getElem_cons_succ, List.getElem_cons_zero])
          refine wpAnyH_take (i := 3) (oi := _) (v := ?rv3) rfl (by kernel_rfl) (by kernel_rfl) (by kernel_rfl) (fun _ _ _ h => h) (Or.inl ⟨by rfl, ?ry3⟩) (by assumption) ?rr3
          case ry3 => (intro w hSw; (try dsimp only at hSw); go_simp; try (with_reducible rfl))
          (try simp only [Act.put, List.setIfInBounds_toArray, List.set_cons_zero, List.set_cons_succ, List.getElem_toArray, List.getElem_cons_succ, List.getElem_cons_zero])
          refine wpAnyH_take (i := 4) (oi := _) (v := ?rv4) rfl (by kernel_rfl) (by kernel_rfl) (by kernel_rfl) (fun _ _ _ h => h) (Or.inl ⟨by rfl, ?ry4⟩) (by assumption) ?rr4
          case ry4 => (intro w hSw; (try dsimp only at hSw); go_simp; try (with_reducible rfl))
          (try simp only [Act.put, List.setIfInBounds_toArray, List.set_cons_zero, List.set_cons_succ, List.getElem_toArray, List.getElem_cons_succ, List.getElem_cons_zero])
          refine wpAnyH_take (i := 6) (oi := _) (v := ?rv5) rfl (by kernel_rfl) (by kernel_rfl) (by kernel_rfl) (fun _ _ _ h => h) (Or.inl ⟨by rfl, ?ry5⟩) (by assumption) ?rr5
          case ry5 => (intro w hSw; (try dsimp only at hSw); go_simp; try (with_reducible rfl))
          (try simp only [Act.put, List.setIfInBounds_toArray, List.set_cons_zero, List.set_cons_succ, List.getElem_toArray, List.getElem_cons_succ, List.getElem_cons_zero])
          refine wpAnyH_take (i := 7) (oi := _) (v := ?rv6) rfl (by kernel_rfl) (by kernel_rfl) (by kernel_rfl) (fun _ _ _ h => h) (Or.inl ⟨by rfl, ?ry6⟩) (by assumption) ?rr6
          case ry6 => (intro w hSw; (try dsimp only at hSw); go_simp; try (with_reducible rfl))
          (try simp only [Act.put, List.setIfInBounds_toArray, List.set_cons_zero, List.set_cons_succ, List.getElem_toArray, List.getElem_cons_succ, List.getElem_cons_zero])
          refine wpAnyH_take (i := 8) (oi := _) (v := ?rv7) rfl (by kernel_rfl) (by kernel_rfl) (by kernel_rfl) (fun _ _ _ h => h) (Or.inl ⟨by rfl, ?ry7⟩) (by assumption) ?rr7
          case ry7 => (intro w hSw; (try dsimp only at hSw); go_simp; try (with_reducible rfl))
          (try simp only [Act.put, List.setIfInBounds_toArray, List.set_cons_zero, List.set_cons_succ, List.getElem_toArray, List.getElem_cons_succ, List.getElem_cons_zero])
          refine wpAnyH_take (i := 9) (oi := _) (v := ?rv8) rfl (by kernel_rfl) (by kernel_rfl) (by kernel_rfl) (fun _ _ _ h => h) (Or.inl ⟨by rfl, ?ry8⟩) (by assumption) ?rr8
          case ry8 => (intro w hSw; (try dsimp only at hSw); go_simp; try (with_reducible rfl))
          (try simp only [Act.put, List.setIfInBounds_toArray, List.set_cons_zero, List.set_cons_succ, List.getElem_toArray, List.getElem_cons_succ, List.getElem_cons_zero])
          refine wpAnyH_take (i := 10) (oi := _) (v := ?rv9) rfl (by kernel_rfl) (by kernel_rfl) (by kernel_rfl) (fun _ _ _ h => h) (Or.inl ⟨by rfl, ?ry9⟩) (by assumption) ?rr9
          case ry9 => (intro w hSw; (try dsimp only at hSw); go_simp; try (with_reducible rfl))
          (try simp only [Act.put, List.setIfInBounds_toArray, List.set_cons_zero, List.set_cons_succ, List.getElem_toArray, List.getElem_cons_succ, List.getElem_cons_zero])
          refine wpAnyH_ready (rs := [0]) (by kernel_rfl) (by simp) ?_
          refine AllReadyH.cons (o := _) rfl (fun K hK => ?_) ?_
          · go_simp
            refine hK.out _ _ ?_ (fun hHeld => ?_)
            · (first | go_keep | (go_split_ands; and_intros <;> (first | assumption | (refine cell_later (by assumption) ?_; assumption) | (refine cell_later (by assumption) ?_; simp [*]; done) | (simp [*]; done))))
            clear hK K
            (try simp only [Act.put, List.setIfInBounds_toArray, List.set_cons_zero, List.set_cons_succ, List.getElem_toArray, List.getElem_cons_succ, List.getElem_cons_zero])
            refine wpAnyH_ready (rs := [5]) (by kernel_rfl) (by simp) ?_
            refine AllReadyH.cons (o := _) rfl (fun K hK => ?_) ?_
            · go_simp
              go_at_call 12
              (with_reducible refine (put_is (pt := pt) (l := L) (k := k) (n := m) (by repeat (first | exact I_d.out | refine IsD.call ?_ (by assumption) | refine IsD.cqt ?_ (qt_drew _) | refine IsD.other ?_ (by assumption) _)) LL.out (Dc.put L k m) rfl).mono ?_)
              rintro e w4 ⟨v2, rfl, i2, b2⟩
              (try (refine Blk.give (w := w4) (K := Kd) (T := 27) (cs := [.pointer pt]) ?_ (fun Rw4 => ?_); (((first | exact (D_d.out.later (qt_drew _).bel).later (by assumption) | exact D_d.out.later (by assumption) | exact ((D_d.out.later (qt_drew _).bel).later (by assumption)).later (by assumption)))); have z0 := Rw4.cell 0; have z1 := Rw4.frozen 0)); have Aw4 : Blk w4 KA 30 [.bool false, .int .u64 k, .int .i64 m] := (by repeat (first | exact D_A2.out | refine Blk.later ?_ (by assumption) | refine Blk.later ?_ (qt_drew _).bel | refine Blk.far ?_ (by assumption) _)); have y1 := Aw4.cell 1; have y2 := Aw4.cell 2
              go_wp2_with fail
              refine hK.out _ _ ?_ (fun hHeld => ?_)
              · (first | go_keep | (go_split_ands; and_intros <;> (first | assumption | (refine cell_later (by assumption) ?_; assumption) | (refine cell_later (by assumption) ?_; simp [*]; done) | (simp [*]; done))))
              clear hK K
              (try simp only [Act.put, List.setIfInBounds_toArray, List.set_cons_zero, List.set_cons_succ, List.getElem_toArray, List.getElem_cons_succ, List.getElem_cons_zero])
              refine wpAnyH_ready (rs := [11]) (by kernel_rfl) (by simp) ?_
              refine AllReadyH.cons (o := _) rfl (fun K hK => ?_) ?_
              · go_simp
                go_at_call 13
                (with_reducible refine (rput_any (v := lo) (n := L.length) (l := L) (k := k) (x0 := m) (by repeat (first | exact S_l.out | refine Sl.call ?_ (by assumption) | refine Sl.cqt ?_ (qt_drew _) | refine Sl.top_set (Sl.other ?_ (by assumption) _))) LL.out HSR.out).mono ?_)
                rintro e w5 ⟨v3, rfl, s3, b3⟩
                (try (refine Blk.give (w := w5) (K := Kd) (T := 27) (cs := [.pointer pt]) ?_ (fun Rw5 => ?_); (((first | exact (D_d.out.later (qt_drew _).bel).later (by assumption) | exact D_d.out.later (by assumption) | exact ((D_d.out.later (qt_drew _).bel).later (by assumption)).later (by assumption)))); have z0 := Rw5.cell 0; have z1 := Rw5.frozen 0)); have Aw5 : Blk w5 KA 30 [.bool false, .int .u64 k, .int .i64 m] := (by repeat (first | exact D_A2.out | refine Blk.later ?_ (by assumption) | refine Blk.later ?_ (qt_drew _).bel | refine Blk.far ?_ (by assumption) _)); have y1 := Aw5.cell 1; have y2 := Aw5.cell 2
                go_wp2_with fail
                refine hK.out _ _ ?_ (fun hHeld => ?_)
                · (first | go_keep | (go_split_ands; and_intros <;> (first | assumption | (refine cell_later (by assumption) ?_; assumption) | (refine cell_later (by assumption) ?_; simp [*]; done) | (simp [*]; done))))
                clear hK K
                (try simp only [Act.put, List.setIfInBounds_toArray, List.set_cons_zero, List.set_cons_succ, List.getElem_toArray, List.getElem_cons_succ, List.getElem_cons_zero])
                refine wpAnyH_ready (rs := [12]) (by kernel_rfl) (by simp) ?_
                refine AllReadyH.cons (o := _) rfl (fun K hK => ?_) ?_
                · go_simp
                  refine hK.out _ _ ?_ (fun hHeld => ?_)
                  · (first | go_keep | (go_split_ands; and_intros <;> (first | assumption | (refine cell_later (by assumption) ?_; assumption) | (refine cell_later (by assumption) ?_; simp [*]; done) | (simp [*]; done))))
                  clear hK K
                  (try simp only [Act.put, List.setIfInBounds_toArray, List.set_cons_zero, List.set_cons_succ, List.getElem_toArray, List.getElem_cons_succ, List.getElem_cons_zero])
                  refine wpAnyH_ready (rs := [13]) (by kernel_rfl) (by simp) ?_
                  refine AllReadyH.cons (o := _) rfl (fun K hK => ?_) ?_
                  · go_simp
                    refine hK.out _ _ ?_ (fun hHeld => ?_)
                    · (first | go_keep | (go_split_ands; and_intros <;> (first | assumption | (refine cell_later (by assumption) ?_; assumption) | (refine cell_later (by assumption) ?_; simp [*]; done) | (simp [*]; done))))
                    clear hK K
                    (try simp only [Act.put, List.setIfInBounds_toArray, List.set_cons_zero, List.set_cons_succ, List.getElem_toArray, List.getElem_cons_succ, List.getElem_cons_zero])
                    refine wpAnyH_done (by kernel_rfl) ?_ _
                    go_wp2_with fail
                    go_meet
                    exact ⟨v2, hid (by repeat (first | exact s3 | refine Sl.call ?_ (by assumption) | refine Sl.cqt ?_ (qt_drew _) | refine Sl.top_set (Sl.other ?_ (by assumption) _))), hid (by repeat (first | exact Blk.put1 (by assumption) _ | refine Blk.later ?_ (by assumption))), hid (by repeat (first | exact i2 | refine IsD.call ?_ (by assumption) | refine IsD.cqt ?_ (qt_drew _) | refine IsD.other ?_ (by assumption) _)), hid (by repeat (first | exact D_x.out | refine Blk.later ?_ (by assumption) | refine Blk.later ?_ (qt_drew _).bel | refine Blk.far ?_ (by assumption) _)), hid (by repeat (first | exact I_x.out | refine IsD.call ?_ (by assumption) | refine IsD.cqt ?_ (qt_drew _) | refine IsD.other ?_ (by assumption) _)), hid (by repeat (first | exact S_l.out | refine Sl.call ?_ (by assumption) | refine Sl.cqt ?_ (qt_drew _) | refine Sl.top_set (Sl.other ?_ (by assumption) _))), hid (by repeat (first | exact D_A2.out | refine Blk.later ?_ (by assumption) | refine Blk.later ?_ (qt_drew _).bel | refine Blk.far ?_ (by assumption) _)), hid (by repeat (first | exact HB.out | refine Bl.call ?_ (by assumption) | refine Bl.qt ?_ (qt_drew _) | refine Below.setCell ?_ lod _))⟩
                  exact AllReadyH.nil
                exact AllReadyH.nil
              exact AllReadyH.nil
            exact AllReadyH.nil
          exact AllReadyH.nil
      case rest =>
      obtain ⟨v1, S_n, D_d, I_d, D_x, I_x, S_l, D_A, HB⟩ := hcut
      have hsr2 := srt_act HSR.out (fl, k, m)
      have hln2 := len_act HSR.out (fl, k, m)
      obtain ⟨L2, hL2⟩ : ∃ L2, L2 = act L (fl, k, m) := ⟨_, rfl⟩
      rw [← hL2] at S_n I_d HAC hsr2 hln2
      clear hL2
      have HSR2 := hid hsr2
      have LL : Hid (L.length ≤ 100000 ∧ L2.length ≤ 100000) := hid ⟨by have := HLN.out; omega, by have := HLN.out; omega⟩
      have HL61 : Hid (L2.length ≤ 61) := hid (by have := HLN.out; omega)
      clear hsr2 hln2
      have c_d : wc.cell? ⟨Kd, 0, none⟩ = some (.pointer v1) := D_d.out.cell 0
      have f_d : wc.frozen? ⟨Kd, 0, none⟩ = false := D_d.out.frozen 0
      have c_x : wc.cell? ⟨Kw, 0, none⟩ = some (.pointer pt) := D_x.out.cell 0
      have f_x : wc.frozen? ⟨Kw, 0, none⟩ = false := D_x.out.frozen 0
      go_wp2_with fail
      clear c_d f_d c_x f_x
      refine (pairs_is (l := L2) I_d.out LL.out.2 L2 L2.length rfl rfl).mono ?_; rintro e w1 ⟨u1, rfl, s, bb⟩
      replace D_d := hid (D_d.out.below bb D_d.out.lt)
      replace I_d := hid (I_d.out.call bb)
      replace D_x := hid (D_x.out.below bb D_x.out.lt)
      replace I_x := hid (I_x.out.call bb)
      replace S_n := hid (S_n.out.call bb)
      replace S_l := hid (S_l.out.call bb)
      replace D_A := hid (D_A.out.below bb D_A.out.lt)
      replace HB := hid (Bl.call HB.out bb)
      have S_1 := hid s
      clear s
      clear bb
      go_wp2_with fail
      refine (refs_any S_1.out LL.out.2).mono ?_; rintro e w2 ⟨u2, rfl, s, bb⟩
      replace D_d := hid (D_d.out.below bb D_d.out.lt)
      replace I_d := hid (I_d.out.call bb)
      replace D_x := hid (D_x.out.below bb D_x.out.lt)
      replace I_x := hid (I_x.out.call bb)
      replace S_n := hid (S_n.out.call bb)
      replace S_l := hid (S_l.out.call bb)
      replace D_A := hid (D_A.out.below bb D_A.out.lt)
      replace HB := hid (Bl.call HB.out bb)
      have S_2 := hid s
      clear s bb S_1
      go_wp2_with fail
      refine (rsame_n S_2.out S_n.out).mono ?_; rintro e wq ⟨rfl, bq⟩
      have bb := bq.bel
      obtain ⟨w3, hw⟩ : ∃ w3, w3 = wq := ⟨_, rfl⟩
      subst hw
      replace D_d := hid (D_d.out.below bb D_d.out.lt)
      replace I_d := hid (I_d.out.call bb)
      replace D_x := hid (D_x.out.below bb D_x.out.lt)
      replace I_x := hid (I_x.out.call bb)
      replace S_n := hid (S_n.out.call bb)
      replace S_l := hid (S_l.out.call bb)
      replace D_A := hid (D_A.out.below bb D_A.out.lt)
      replace HB := hid (Bl.call HB.out bb)
      clear bb bq S_2
      have c_d : w3.cell? ⟨Kd, 0, none⟩ = some (.pointer v1) := D_d.out.cell 0
      have f_d : w3.frozen? ⟨Kd, 0, none⟩ = false := D_d.out.frozen 0
      have c_x : w3.cell? ⟨Kw, 0, none⟩ = some (.pointer pt) := D_x.out.cell 0
      have f_x : w3.frozen? ⟨Kw, 0, none⟩ = false := D_x.out.frozen 0
      go_wp2_with fail
      clear c_d f_d c_x f_x
      refine (pairs_is (l := L) I_x.out LL.out.1 L L.length rfl rfl).mono ?_; rintro e w4 ⟨u3, rfl, s, bb⟩
      replace D_d := hid (D_d.out.below bb D_d.out.lt)
      replace I_d := hid (I_d.out.call bb)
      replace D_x := hid (D_x.out.below bb D_x.out.lt)
      replace I_x := hid (I_x.out.call bb)
      replace S_n := hid (S_n.out.call bb)
      replace S_l := hid (S_l.out.call bb)
      replace D_A := hid (D_A.out.below bb D_A.out.lt)
      replace HB := hid (Bl.call HB.out bb)
      have S_1 := hid s
      clear s
      clear bb
      go_wp2_with fail
      refine (refs_any S_1.out LL.out.1).mono ?_; rintro e w5 ⟨u4, rfl, s, bb⟩
      replace D_d := hid (D_d.out.below bb D_d.out.lt)
      replace I_d := hid (I_d.out.call bb)
      replace D_x := hid (D_x.out.below bb D_x.out.lt)
      replace I_x := hid (I_x.out.call bb)
      replace S_n := hid (S_n.out.call bb)
      replace S_l := hid (S_l.out.call bb)
      replace D_A := hid (D_A.out.below bb D_A.out.lt)
      replace HB := hid (Bl.call HB.out bb)
      have S_2 := hid s
      clear s bb S_1
      go_wp2_with fail
      refine (rsame_n S_2.out S_l.out).mono ?_; rintro e wq ⟨rfl, bq⟩
      have bb := bq.bel
      obtain ⟨w6, hw⟩ : ∃ w6, w6 = wq := ⟨_, rfl⟩
      subst hw
      replace D_d := hid (D_d.out.below bb D_d.out.lt)
      replace I_d := hid (I_d.out.call bb)
      replace D_x := hid (D_x.out.below bb D_x.out.lt)
      replace I_x := hid (I_x.out.call bb)
      replace S_n := hid (S_n.out.call bb)
      replace S_l := hid (S_l.out.call bb)
      replace D_A := hid (D_A.out.below bb D_A.out.lt)
      replace HB := hid (Bl.call HB.out bb)
      clear bb bq S_2
      obtain ⟨An, cn, hsn⟩ : ∃ A c, u6 = .slice A L2.length c := by obtain ⟨A, c, h, _⟩ := S_n.out; exact ⟨A, c, h⟩
      subst hsn
      have r5 : (((L2.length : Nat) : Int) != ((L2.length : Nat) : Int)) = false := by simp
      have c_d : w6.cell? ⟨Kd, 0, none⟩ = some (.pointer v1) := D_d.out.cell 0
      have f_d : w6.frozen? ⟨Kd, 0, none⟩ = false := D_d.out.frozen 0
      have c_x : w6.cell? ⟨Kw, 0, none⟩ = some (.pointer pt) := D_x.out.cell 0
      have f_x : w6.frozen? ⟨Kw, 0, none⟩ = false := D_x.out.frozen 0
      go_wp2_with fail
      clear c_d f_d c_x f_x
      refine (many_is (l := L2) I_d.out ((L2.length : Nat) : Int) rfl).mono ?_; rintro e w7 ⟨rfl, bb⟩
      replace D_d := hid (D_d.out.below bb D_d.out.lt)
      replace I_d := hid (I_d.out.call bb)
      replace D_x := hid (D_x.out.below bb D_x.out.lt)
      replace I_x := hid (I_x.out.call bb)
      replace S_n := hid (S_n.out.call bb)
      replace S_l := hid (S_l.out.call bb)
      replace D_A := hid (D_A.out.below bb D_A.out.lt)
      replace HB := hid (Bl.call HB.out bb)
      clear bb
      have c_A : w7.cell? ⟨KA, 1, none⟩ = some (.int .u64 k) := D_A.out.cell 1
      obtain ⟨KB, hKB⟩ : ∃ KB, KB = w7.heap.size := ⟨_, rfl⟩
      obtain ⟨w9, hw9⟩ : ∃ w9, w9 = w7.alloc (.cells #[.int .u64 key, .int .u64 k] 23) := ⟨_, rfl⟩
      have HKB := hid hKB
      have HW9 := hid hw9
      have D_K : Hid (Blk w9 KB 23 [.int .u64 key, .int .u64 k]) := hid (by rw [hw9, hKB]; exact Blk.new _ _ _)
      have bb : Below w7.heap.size w7 w9 := by rw [hw9]; exact bel_new _ _
      go_wp2_with fail
      rw [← HKB.out, ← HW9.out]
      replace D_d := hid (D_d.out.below bb D_d.out.lt)
      replace I_d := hid (I_d.out.call bb)
      replace D_x := hid (D_x.out.below bb D_x.out.lt)
      replace I_x := hid (I_x.out.call bb)
      replace S_n := hid (S_n.out.call bb)
      replace S_l := hid (S_l.out.call bb)
      replace D_A := hid (D_A.out.below bb D_A.out.lt)
      replace HB := hid (Bl.call HB.out bb)
      clear bb hw9 hKB c_A
      go_loopw [96] (fun i wr => ∃ (q : Nat), i = .int .i64 (q : Int) ∧ q ≤ 2 ∧ Hid (Sl wr wr.heap.size 2 (.slice An L2.length cn) L2.length (prs L2)) ∧ Hid (Blk wr Kd 27 [.pointer v1]) ∧ Hid (IsD wr v1 L2) ∧ Hid (Blk wr KA 30 [.bool fl, .int .u64 k, .int .i64 m]) ∧ Hid (Blk wr KB 23 [.int .u64 key, .int .u64 k]) ∧ Hid (Below w.heap.size w wr)) (fun i _ => 2 - (intOf i).toNat)
      case atStart => exact ⟨0, rfl, by decide, S_n, D_d, I_d, D_A, D_K, HB⟩
      case round =>
        clear S_n D_d I_d D_A D_K HB D_x I_x S_l
        obtain ⟨q, rfl, hq, S_n, D_d, I_d, D_A, D_K, HB⟩ := hrel
        have hq' : q = 0 ∨ q = 1 ∨ q = 2 := by omega
        rcases hq' with rfl | rfl | rfl
        · have c_k : wr.cell? ⟨KB, 0, none⟩ = some (.int .u64 key) := D_K.out.cell 0
          obtain ⟨z, hz⟩ : ∃ z, z = (Dc.get L2 key).getD 0 := ⟨_, rfl⟩
          obtain ⟨s, hs⟩ : ∃ s, s = (Dc.get L2 key).isSome := ⟨_, rfl⟩
          obtain ⟨y, hy⟩ : ∃ y, y = Dc.less L2 key := ⟨_, rfl⟩
          have HZ := hid hz
          have HS1 := hid hs
          have HY := hid hy
          clear hz hs hy
          have r5 : ((z : Int) != z) = false := by simp
          have r6 : (s != s) = false := by simp
          have r7 : ((y : Int) != (y : Int)) = false := by simp
          have c_d : wr.cell? ⟨Kd, 0, none⟩ = some (.pointer v1) := D_d.out.cell 0
          have f_d : wr.frozen? ⟨Kd, 0, none⟩ = false := D_d.out.frozen 0
          go_wp2_with fail
          clear c_d f_d
          refine (get_is (l := L2) (k := key) I_d.out LL.out.2 z s HZ.out.symm HS1.out.symm).mono ?_; rintro e w1 ⟨rfl, bb⟩
          replace D_d := hid (D_d.out.below bb D_d.out.lt)
          replace I_d := hid (I_d.out.call bb)
          replace S_n := hid (S_n.out.call bb)
          replace D_A := hid (D_A.out.below bb D_A.out.lt)
          replace D_K := hid (D_K.out.below bb D_K.out.lt)
          replace HB := hid (Bl.call HB.out bb)
          clear bb c_k
          have c_d : w1.cell? ⟨Kd, 0, none⟩ = some (.pointer v1) := D_d.out.cell 0
          have f_d : w1.frozen? ⟨Kd, 0, none⟩ = false := D_d.out.frozen 0
          go_wp2_with fail
          refine (rget_any (k := key) S_n.out z s HZ.out.symm HS1.out.symm).mono ?_; rintro e w' ⟨rfl, rfl⟩
          go_wp2_with fail
          clear c_d f_d
          refine (from_is (l := L2) (k := key) (z := (y : Int)) I_d.out LL.out.2 (by rw [HY.out])).mono ?_; rintro e w2 ⟨rfl, bb⟩
          replace D_d := hid (D_d.out.below bb D_d.out.lt)
          replace I_d := hid (I_d.out.call bb)
          replace S_n := hid (S_n.out.call bb)
          replace D_A := hid (D_A.out.below bb D_A.out.lt)
          replace D_K := hid (D_K.out.below bb D_K.out.lt)
          replace HB := hid (Bl.call HB.out bb)
          clear bb
          have RL := hid (rless_any (k := key) S_n.out)
          rw [← HY.out] at RL
          go_wp2_with fail
          refine RL.out.mono ?_; rintro e w' ⟨rfl, rfl⟩
          go_wp2_with fail
          go_roundw
          case rel => exact ⟨1, by go_num, by decide, S_n, D_d, I_d, D_A, D_K, HB⟩
          case measure => simp [intOf]
        · have c_k : wr.cell? ⟨KB, 1, none⟩ = some (.int .u64 k) := D_K.out.cell 1
          obtain ⟨z, hz⟩ : ∃ z, z = (Dc.get L2 k).getD 0 := ⟨_, rfl⟩
          obtain ⟨s, hs⟩ : ∃ s, s = (Dc.get L2 k).isSome := ⟨_, rfl⟩
          obtain ⟨y, hy⟩ : ∃ y, y = Dc.less L2 k := ⟨_, rfl⟩
          have HZ := hid hz
          have HS1 := hid hs
          have HY := hid hy
          clear hz hs hy
          have r5 : ((z : Int) != z) = false := by simp
          have r6 : (s != s) = false := by simp
          have r7 : ((y : Int) != (y : Int)) = false := by simp
          have c_d : wr.cell? ⟨Kd, 0, none⟩ = some (.pointer v1) := D_d.out.cell 0
          have f_d : wr.frozen? ⟨Kd, 0, none⟩ = false := D_d.out.frozen 0
          go_wp2_with fail
          clear c_d f_d
          refine (get_is (l := L2) (k := k) I_d.out LL.out.2 z s HZ.out.symm HS1.out.symm).mono ?_; rintro e w1 ⟨rfl, bb⟩
          replace D_d := hid (D_d.out.below bb D_d.out.lt)
          replace I_d := hid (I_d.out.call bb)
          replace S_n := hid (S_n.out.call bb)
          replace D_A := hid (D_A.out.below bb D_A.out.lt)
          replace D_K := hid (D_K.out.below bb D_K.out.lt)
          replace HB := hid (Bl.call HB.out bb)
          clear bb c_k
          have c_d : w1.cell? ⟨Kd, 0, none⟩ = some (.pointer v1) := D_d.out.cell 0
          have f_d : w1.frozen? ⟨Kd, 0, none⟩ = false := D_d.out.frozen 0
          go_wp2_with fail
          refine (rget_any (k := k) S_n.out z s HZ.out.symm HS1.out.symm).mono ?_; rintro e w' ⟨rfl, rfl⟩
          go_wp2_with fail
          clear c_d f_d
          refine (from_is (l := L2) (k := k) (z := (y : Int)) I_d.out LL.out.2 (by rw [HY.out])).mono ?_; rintro e w2 ⟨rfl, bb⟩
          replace D_d := hid (D_d.out.below bb D_d.out.lt)
          replace I_d := hid (I_d.out.call bb)
          replace S_n := hid (S_n.out.call bb)
          replace D_A := hid (D_A.out.below bb D_A.out.lt)
          replace D_K := hid (D_K.out.below bb D_K.out.lt)
          replace HB := hid (Bl.call HB.out bb)
          clear bb
          have RL := hid (rless_any (k := k) S_n.out)
          rw [← HY.out] at RL
          go_wp2_with fail
          refine RL.out.mono ?_; rintro e w' ⟨rfl, rfl⟩
          go_wp2_with fail
          go_roundw
          case rel => exact ⟨2, by go_num, by decide, S_n, D_d, I_d, D_A, D_K, HB⟩
          case measure => simp [intOf]
        · have c_d : wr.cell? ⟨Kd, 0, none⟩ = some (.pointer v1) := D_d.out.cell 0
          go_wp2_with fail
          refine (dheight_any (l := L2) I_d.out).mono ?_; rintro e w1 ⟨h, rfl, ⟨t, hbal, hls, hht⟩, bb⟩
          have hsz : sz t = L2.length := by rw [← len_ls, hls]
          have hlow := bal_low t hbal 6 (by rw [hsz]; have := HL61.out; omega)
          have hmn := mn_sz t hbal
          have hz0 : L2.length = 0 ↔ h = 0 := by
            rw [← hsz, ← hht]
            constructor
            · intro h0; rw [sz_zero h0]; rfl
            · intro h0; rw [ht_zero h0]; rfl
          rw [hht] at hlow hmn
          rw [hsz] at hmn
          have LC := hid (least_any h (by omega))
          obtain ⟨y, hy⟩ : ∃ y : Int, y = (mn h : Int) - 1 := ⟨_, rfl⟩
          rw [← hy] at LC
          have t0 : ¬ (h : Int) < 0 := by omega
          have t1 : ¬ (60 : Int) < (h : Int) := by omega
          have t2 : ¬ ((L2.length : Nat) : Int) < y := by omega
          have B9 := hid (Bl.call HB.out bb)
          have S9 := hid (S_n.out.call bb)
          have D9 := hid (D_d.out.below bb D_d.out.lt)
          have I9 := hid (I_d.out.call bb)
          obtain ⟨hb0, hb1, hb2⟩ : ∃ b : Bool, decide ((0 : Int) < (h : Int)) = b ∧ decide ((0 : Int) < ((L2.length : Nat) : Int)) = b := by
            by_cases h0 : h = 0
            · exact ⟨false, by simp [h0], by have := hz0.2 h0; simp [this]⟩
            · exact ⟨true, by simp; omega, by have : L2.length ≠ 0 := fun e => h0 (hz0.1 e); simp; omega⟩
          have hb3 : decide (0 < h) = hb0 := by rw [← hb1]; simp
          have hb4 : decide (0 < L2.length) = hb0 := by rw [← hb2]; simp
          have r9 : (hb0 != hb0) = false := by simp
          clear bb c_d hls hbal hht hsz hlow hmn hz0 hy
          go_wp2_with fail
          refine (LC.out _).mono ?_; rintro e w' ⟨rfl, rfl⟩
          go_wp2_with fail
          go_roundw
          case rel => exact ⟨j + 1, v1, by go_num, by omega, by rw [HAC.out]; exact S9, D9, by rw [HAC.out]; exact I9, B9⟩
          case measure => simp [intOf]; omega
    · have hi0 : ¬ (j : Int) < (nn : Int) := by omega
      go_wp2_with fail
      refine (dAwake_any _).mono ?_; rintro e wz ⟨rfl, bz⟩
      go_wp2
      go_ret
      exact ⟨rfl, Bl.call HB.out bz⟩
end Go.Proofs.Ytkkhghipbnpiaaa
