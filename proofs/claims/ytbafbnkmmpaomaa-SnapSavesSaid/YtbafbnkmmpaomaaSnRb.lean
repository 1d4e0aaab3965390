/- Contracts of the document's Forest, Spanning. -/
import Derived.Test.YtbafbnkmmpaomaaSnRa
namespace Go.Proofs.Ytbafbnkmmpaomaa
open Go.RowKit Pt
set_option linter.unusedVariables false
set_option linter.unusedSimpArgs false
attribute [local go_sem ↓] Go.wp_at_zero Go.wp_at_succ
def cutA (A : Option Addr) (c lo sz : Nat) : Option Addr := if c = lo then A else A.map (·.add (lo * sz))
theorem Sl.drop {w : World} {B sz n c k : Nat} {A : Option Addr} {xs : List Value} (h : Sl w B sz (.slice A n c) n xs) (hk : k ≤ n) : Sl w B sz (.slice (cutA A c k sz) (n - k) (c - k)) (n - k) (xs.drop (k * sz)) := by
  obtain ⟨A', c', hv, hnc, hcm, hl, hx⟩ := h
  injection hv with e1 e2 e3
  subst e1 e3
  refine ⟨_, _, rfl, by omega, by omega, by rw [List.length_drop, hl, Nat.sub_mul], fun h0 => ?_⟩
  obtain ⟨b, o, rfl, hb, hc⟩ := hx (by omega)
  refine ⟨b, o + k * sz, by unfold cutA; rw [if_neg (by omega)]; simp [Addr.add_lit], hb, fun j u hu => ?_⟩
  rw [List.getElem?_drop] at hu
  rw [Nat.add_assoc]
  exact hc _ u hu
theorem Sl.take {w : World} {B sz n c k : Nat} {A : Option Addr} {xs : List Value} (h : Sl w B sz (.slice A n c) n xs) (hk : k ≤ n) : Sl w B sz (.slice (cutA A c 0 sz) k c) k (xs.take (k * sz)) := by
  obtain ⟨A', c', hv, hnc, hcm, hl, hx⟩ := h
  injection hv with e1 e2 e3
  subst e1 e3
  refine ⟨_, _, rfl, by omega, by omega, by rw [List.length_take, hl]; exact Nat.min_eq_left (Nat.mul_le_mul_right _ hk), fun h0 => ?_⟩
  obtain ⟨b, o, rfl, hb, hc⟩ := hx (by omega)
  refine ⟨b, o, by unfold cutA; rw [if_neg (by omega)]; simp [Addr.add_lit], hb, fun j u hu => ?_⟩
  rw [List.getElem?_take] at hu
  split at hu
  · exact hc _ u hu
  · cases hu
theorem sizeOf_of {t e : TypeId} {z : Value} {sz by_ : Nat} (hT : SlT t e z sz by_) (w : World) : (sizeOf e).run Try.prog w = .ok sz w := by
  obtain ⟨hu, ⟨i, hi, hz, hsz, hby⟩, hzs, h0, h0b⟩ := hT
  simp [sizeOf, typeInfo, hi, hsz]
theorem elem_of {t e : TypeId} {z : Value} {sz by_ : Nat} (hT : SlT t e z sz by_) : Try.prog.elem t = e := by
  obtain ⟨hu, -⟩ := hT
  simp [Program.elem, hu]
theorem und_of {t e : TypeId} {z : Value} {sz by_ : Nat} (hT : SlT t e z sz by_) : Try.prog.underlying t = some (.slice (Try.prog.elem t)) := by
  rw [elem_of hT]; exact hT.1
theorem run_take_of {t e : TypeId} {z : Value} {sz by_ : Nat} (hT : SlT t e z sz by_) (A : Option Addr) (n c k : Nat) (hk : k ≤ c) (w : World) :
    (Instr.slice t (.slice A n c) none (some (.int .i64 (k : Int))) none).run Try.prog w = .ok (.slice (cutA A c 0 sz) k c) w := by
  rw [run_slice_h (P := Try.prog) w t A n c (und_of hT) .i64 (k : Int) (by omega) (by omega), elem_of hT, sizeOf_of hT]
  simp only [Result.andThen_ok, sliced, cutA, Int.toNat_natCast, Nat.sub_zero]
theorem run_drop_of {t e : TypeId} {z : Value} {sz by_ : Nat} (hT : SlT t e z sz by_) (A : Option Addr) (n c k : Nat) (hk : k ≤ n) (w : World) :
    (Instr.slice t (.slice A n c) (some (.int .i64 (k : Int))) none none).run Try.prog w = .ok (.slice (cutA A c k sz) (n - k) (c - k)) w := by
  rw [run_slice_l (P := Try.prog) w t A n c (und_of hT) .i64 (k : Int) (by omega) (by omega), elem_of hT, sizeOf_of hT]
  simp only [Result.andThen_ok, sliced, cutA, Int.toNat_natCast]
theorem eds_take (l : List Ed) (k : Nat) : (eds l).take (k * 3) = eds (l.take k) := by
  induction l generalizing k with
  | nil => simp [eds]
  | cons e l ih =>
    cases k with
    | zero => simp [eds]
    | succ k =>
      have h := ih k
      simp only [eds, List.flatMap_cons, List.take_succ_cons] at h ⊢
      rw [show (k + 1) * 3 = k * 3 + 3 by omega]
      rw [← h]
      rfl
set_option maxRecDepth 100000 in
set_option maxHeartbeats 8000000 in
theorem rforest_any {k : Int} {v : Value} {m : Nat} {l : List (Int × Int × Int)} {w : World} (hs : Sl w w.heap.size 3 v m (eds l)) (hm : m ≤ 1000000) :
    Calls Try.prog 43 #[v, .int .i64 k] w (FrsPost w (frs k l)) := by
  have hl : l.length = m := by have := hs.len; rw [len_eds] at this; omega
  have HS := hid hs
  obtain ⟨A, c, rfl, hnc, hcm, hll, hx⟩ := hs
  have HX := hid hx
  have HL := hid hl
  clear hx hll hl hcm hnc
  go_enter Try.func43, Try.ntmps43
  go_wp2_with fail
  go_loopw [5, 6] (fun ov iv wr => ∃ (i q : Nat), i ≤ m ∧ iv = .int .i64 (i : Int) ∧ q ≤ i ∧ Hid ((frs k (l.take i)).length = q) ∧ Hid (wr.ownsRow w.heap.size 61 3 ov q (eds (frs k (l.take i)))) ∧ Hid (Below w.heap.size w wr)) (fun _ iv _ => m - (intOf iv).toNat)
  case atStart => exact ⟨0, 0, Nat.zero_le _, rfl, Nat.le_refl _, hid rfl, hid (World.ownsRow_nil _ _ _ _), hid (Below.refl _ _)⟩
  case round =>
    obtain ⟨i, q, hi, rfl, hqi, HQ, HO, HB⟩ := hrel
    obtain ⟨w1, rfl⟩ : ∃ x, x = wr := ⟨wr, rfl⟩
    by_cases hlt : i < m
    · have j0 : (i : Int) < (m : Int) := by omega
      have hil : i < l.length := by rw [HL.out]; exact hlt
      obtain ⟨b6, o6, rfl, hb6, hc6⟩ := HX.out (by omega)
      obtain ⟨p0, p1, p2⟩ := eds_cell hc6 hil
      have q0 := (HB.out.cell (p := ⟨b6, o6 + i * 3, none⟩) hb6).trans p0
      have q1 := (HB.out.cell (p := ⟨b6, o6 + i * 3 + 1, none⟩) hb6).trans p1
      have q2 := (HB.out.cell (p := ⟨b6, o6 + i * 3 + 2, none⟩) hb6).trans p2
      have HY := hid (fun h => frs_yes (k := k) hil h)
      have HNO := hid (fun h => frs_no (k := k) hil h)
      obtain ⟨e, he⟩ : ∃ e, e = l[i] := ⟨_, rfl⟩
      rw [← he] at q0 q1 q2 HNO HY
      obtain ⟨x, y, t⟩ := e
      dsimp only at q0 q1 q2
      clear he p0 p1 p2 hc6
      by_cases ht : 1 ≤ t ∧ t ≤ k
      · obtain ⟨t1, t2⟩ := ht
        have HN := hid (HY.out ⟨t1, t2⟩)
        have HH : Hid (w1.heap.size = w1.heap.size) := hid rfl
        have HZ := hid HB.out.size
        have hby : (q + 1) * 24 ≤ 140737488355328 := by omega
        have t3 : 0 < t := by omega
        clear HY HNO
        go_wp2_with (at_builtin; (refine wl_app1H rfl _ _ Tedg rfl (news := [.int .i64 x, .int .i64 y, .int .i64 t]) rfl HO.out rfl HH.out rfl (eds_one [(x, y, t)]) hby HZ.out ?_))
        intro v9 w9 o9 b9
        have O9 : Hid (w9.ownsRow w.heap.size 61 3 v9 (q + 1) (eds (frs k (l.take (i + 1))))) := hid (by rw [HN.out, ← eds_app]; exact o9)
        have HQ9 : Hid ((frs k (l.take (i + 1))).length = q + 1) := hid (by rw [HN.out, List.length_append, HQ.out]; rfl)
        have B9 := hid (HB.out.trans b9)
        clear o9 b9
        go_wp2_with fail
        go_roundw
        case rel => exact ⟨i + 1, q + 1, by omega, by go_num, by omega, HQ9, O9, B9⟩
        case measure => simp [intOf]; omega
      · have HN := hid (HNO.out ht)
        clear HY HNO
        by_cases t1 : 0 < t
        · have t2 : ¬ t ≤ k := fun h => ht ⟨by omega, h⟩
          clear ht
          go_wp2_with fail
          go_roundw
          case rel => exact ⟨i + 1, q, by omega, by go_num, by omega, hid (by rw [HN.out]; exact HQ.out), hid (by rw [HN.out]; exact HO.out), HB⟩
          case measure => simp [intOf]; omega
        · clear ht
          go_wp2_with fail
          go_roundw
          case rel => exact ⟨i + 1, q, by omega, by go_num, by omega, hid (by rw [HN.out]; exact HQ.out), hid (by rw [HN.out]; exact HO.out), HB⟩
          case measure => simp [intOf]; omega
    · have j0 : ¬ (i : Int) < (m : Int) := by omega
      obtain rfl : i = m := by omega
      have HF : Hid (frs k (l.take i) = frs k l) := hid (by rw [List.take_of_length_le (by rw [HL.out]; exact Nat.le_refl _)])
      go_wp2
      go_ret
      exact ⟨_, rfl, by have h1 := Sl.of_own HO.out; have h2 := HQ.out; rw [HF.out] at h1 h2; rw [h2]; exact h1, HB.out⟩
theorem fst_nil (n : Nat) : Fst n [] := by
  refine ⟨?_, ?_⟩
  · intro e he
    exact absurd he (by simp)
  · show cnt (idl n) + 0 = n
    rw [cnt_idl]; rfl
theorem uv_snoc {l : List Ed} {k : Nat} (h : k < l.length) : uv (l.take (k + 1)) = uv (l.take k) ++ [(l[k].1, l[k].2.1)] := by
  unfold uv
  rw [List.take_succ_eq_append_getElem h, List.map_append]
  rfl
theorem fst_eq {n : Nat} {l : List Ed} {k : Nat} (h : k < l.length) (he : g (partOf n (uv (l.take k))) l[k].1 = g (partOf n (uv (l.take k))) l[k].2.1) : ¬ Fst n (uv (l.take (k + 1))) := by
  rw [uv_snoc h]
  exact Fst.snoc_not (e := (l[k].1, l[k].2.1)) he
theorem fst_ne {n : Nat} {l : List Ed} {k : Nat} (h : k < l.length) (hm : mayB n l = true) (he : g (partOf n (uv (l.take k))) l[k].1 ≠ g (partOf n (uv (l.take k))) l[k].2.1) : Fst n (uv (l.take (k + 1))) ↔ Fst n (uv (l.take k)) := by
  rw [uv_snoc h]
  have hin := (mayB_iff n l).1 hm (l[k].1, l[k].2.1) (List.mem_map.2 ⟨l[k], List.getElem_mem _, rfl⟩)
  exact ⟨fun h => h.init.1, fun h => h.snoc hin.1 hin.2 he⟩
theorem may_take {n : Nat} {l : List Ed} (hm : mayB n l = true) (k : Nat) : mayB n (l.take k) = true := by
  unfold mayB at hm ⊢
  exact List.all_eq_true.2 fun x hx => List.all_eq_true.1 hm x (List.mem_of_mem_take hx)
/-- As many edges as there are just if they are a forest. -/
def SpnPost (n : Nat) (l : List Ed) (w : World) (e : Ending) (w' : World) : Prop := ∃ A c q, e = .returned (.slice A q c) ∧ q ≤ maxLen ∧ (q = l.length ↔ Fst n (uv l)) ∧ Below w.heap.size w w'
set_option maxRecDepth 100000 in
set_option maxHeartbeats 8000000 in
theorem rspanning_any {n : Nat} (hn : n ≤ 1024) {v : Value} {m : Nat} {l : List Ed} {w : World} (hs : Sl w w.heap.size 3 v m (eds l)) (hm : mayB n l = true) (hmm : m ≤ 1000000) :
    Calls Try.prog 44 #[.int .i64 (n : Int), v] w (SpnPost n l w) := by
  have hl : l.length = m := by have := hs.len; rw [len_eds] at this; omega
  have HS := hid hs
  have HM := hid hm
  obtain ⟨A, c, rfl, hnc, hcm, hll, hx⟩ := hs
  have HX := hid hx
  have HL := hid hl
  have HNC := hid hnc
  clear hx hll hl hm hcm hnc
  go_enter Try.func44, Try.ntmps44
  go_wp2_with fail
  go_loopw [5, 6, 7] (fun ov iv pv wr => ∃ (i q : Nat) (S : List Ed), i ≤ m ∧ iv = .int .i64 (i : Int) ∧ q ≤ i ∧ Hid (q = i ↔ Fst n (uv (l.take i))) ∧ Hid (wr.ownsRow w.heap.size 61 3 ov q (eds S)) ∧ Hid (Below w.heap.size w wr)) (fun _ iv _ _ => m - (intOf iv).toNat)
  case atStart => exact ⟨0, 0, [], Nat.zero_le _, rfl, Nat.le_refl _, hid ⟨fun _ => fst_nil n, fun _ => rfl⟩, hid (World.ownsRow_nil _ _ _ _), hid (Below.refl _ _)⟩
  case round =>
    obtain ⟨i, q, S, hi, rfl, hqi, HQ, HO, HB⟩ := hrel
    obtain ⟨w1, rfl⟩ : ∃ x, x = wr := ⟨wr, rfl⟩
    by_cases hlt : i < m
    · have j0 : (i : Int) < (m : Int) := by omega
      have hil : i < l.length := by rw [HL.out]; exact hlt
      have hsl : ∀ w' : World, (Instr.slice 25 (.slice A m c) none (some (.int .i64 (i : Int))) none).run Try.prog w' = .ok (.slice (cutA A c 0 3) i c) w' := fun w' => run_take_of Tedg A m c i (by have := HNC.out; omega) w'
      have HT : Hid (Sl w1 w1.heap.size 3 (.slice (cutA A c 0 3) i c) i (eds (l.take i))) := hid (by have h := (HS.out.call HB.out).take (k := i) (by omega); rw [eds_take] at h; exact h)
      go_wp2_with fail
      refine (refOf_any n hn _ i w1.heap.size (l.take i) w1 HT.out (Nat.le_refl _) (may_take HM.out i)).mono ?_; rintro e w2 ⟨v2, rfl, o2, b2⟩
      have HO2 := hid (own_below HO.out b2)
      have HB2 := hid (Bl.call HB.out b2)
      obtain ⟨b6, o6, rfl, hb6, hc6⟩ := HX.out (by omega)
      obtain ⟨p0, p1, p2⟩ := eds_cell hc6 hil
      have q0 := (HB2.out.cell (p := ⟨b6, o6 + i * 3, none⟩) hb6).trans p0
      have q1 := (HB2.out.cell (p := ⟨b6, o6 + i * 3 + 1, none⟩) hb6).trans p1
      have q2 := (HB2.out.cell (p := ⟨b6, o6 + i * 3 + 2, none⟩) hb6).trans p2
      have HE1 := hid (fun h => fst_eq (n := n) hil h)
      have HE2 := hid (fun h => fst_ne hil HM.out h)
      have hin := (mayB_iff n l).1 HM.out (l[i].1, l[i].2.1) (List.mem_map.2 ⟨l[i], List.getElem_mem _, rfl⟩)
      obtain ⟨e, he⟩ : ∃ e, e = l[i] := ⟨_, rfl⟩
      rw [← he] at q0 q1 q2 HE1 HE2 hin
      obtain ⟨x, y, t⟩ := e
      dsimp only at q0 q1 q2 hin
      obtain ⟨⟨x0, x1⟩, y0, y1⟩ := hin
      obtain ⟨x, rfl⟩ := Int.eq_ofNat_of_zero_le x0
      obtain ⟨y, rfl⟩ := Int.eq_ofNat_of_zero_le y0
      have s2 := Sl.of_own o2
      obtain ⟨P, hP⟩ : ∃ P, P = partOf n (uv (l.take i)) := ⟨_, rfl⟩
      rw [← hP] at s2 HE1 HE2
      have hPl : P.length = n := by have := s2.len; rw [len_ints] at this; omega
      obtain ⟨A2, c2, rfl, hn2, -, -, hx2⟩ := s2
      obtain ⟨b7, o7, rfl, hb7, hc7⟩ := hx2 (by omega)
      have d0 := ints_cell hc7 (k := x) (by omega)
      have d1 := ints_cell hc7 (k := y) (by omega)
      obtain ⟨gx, hgx⟩ : ∃ gx, gx = P.getD x 0 := ⟨_, rfl⟩
      obtain ⟨gy, hgy⟩ : ∃ gy, gy = P.getD y 0 := ⟨_, rfl⟩
      rw [← hgx] at d0
      rw [← hgy] at d1
      have HG1 : Hid (g P (x : Int) = gx) := hid hgx.symm
      have HG2 : Hid (g P (y : Int) = gy) := hid hgy.symm
      clear he p0 p1 p2 hc6 hil hP hPl hx2 hc7 hgx hgy o2 b2 hsl x0 y0 HT
      by_cases hg : gx = gy
      · have e1 : (gx != gy) = false := by simp [hg]
        have HNF := hid (HE1.out (by rw [HG1.out, HG2.out, hg]))
        clear hg HE1 HE2
        go_wp2_with fail
        go_quiet (fail)
        go_wp2_with fail
        go_roundw
        case rel => exact ⟨i + 1, q, S, by omega, by go_num, by omega, hid ⟨fun h => absurd h (by omega), fun h => absurd h HNF.out⟩, hid (own_below HO2.out (qt_of _ _).bel), hid (Bl.qt HB2.out (qt_of _ _))⟩
        case measure => simp [intOf]; omega
      · have e1 : (gx != gy) = true := by simp [hg]
        have HFF := hid (HE2.out (by rw [HG1.out, HG2.out]; exact hg))
        clear hg HE1 HE2
        go_wp2_with fail
        go_quiet (fail)
        generalize hw3 : World.drewN w2 _ = w3
        have hq3 : Qt w2 w3 := ⟨_, hw3.symm⟩
        have HO3 := hid (own_below HO2.out hq3.bel)
        have HB3 := hid (Bl.qt HB2.out hq3)
        rw [← hq3.cell] at q0 q1 q2
        clear hw3 hq3 d0 d1 e1
        have HH : Hid (w3.heap.size = w3.heap.size) := hid rfl
        have HZ := hid HB3.out.size
        have hby : (q + 1) * 24 ≤ 140737488355328 := by omega
        go_wp2_with (at_builtin; (refine wl_app1H rfl _ _ Tedg rfl (news := [.int .i64 (x : Int), .int .i64 (y : Int), .int .i64 t]) rfl HO3.out rfl HH.out rfl (eds_one [((x : Int), (y : Int), t)]) hby HZ.out ?_))
        intro v9 w9 o9 b9
        have O9 : Hid (w9.ownsRow w.heap.size 61 3 v9 (q + 1) (eds (S ++ [((x : Int), (y : Int), t)]))) := hid (by rw [← eds_app]; exact o9)
        have B9 := hid (HB3.out.trans b9)
        clear o9 b9
        go_wp2_with fail
        go_roundw
        case rel => exact ⟨i + 1, q + 1, S ++ [((x : Int), (y : Int), t)], by omega, by go_num, by omega, hid ⟨fun h => HFF.out.2 (HQ.out.1 (by omega)), fun h => by have := HQ.out.2 (HFF.out.1 h); omega⟩, O9, B9⟩
        case measure => simp [intOf]; omega
    · have j0 : ¬ (i : Int) < (m : Int) := by omega
      obtain rfl : i = m := by omega
      have h1 := Sl.of_own HO.out
      obtain ⟨A3, c3, rfl, hn3, hc3, -, -⟩ := h1
      have HQ3 : Hid (q = l.length ↔ Fst n (uv l)) := hid (by have h := HQ.out; rw [List.take_of_length_le (by rw [HL.out]; exact Nat.le_refl _)] at h; rw [HL.out]; exact h)
      have HX3 : Hid (q ≤ maxLen) := hid (by omega)
      go_wp2
      go_ret
      exact ⟨_, _, _, rfl, HX3.out, HQ3.out, HB.out⟩
end Go.Proofs.Ytbafbnkmmpaomaa
