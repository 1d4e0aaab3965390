/- Contracts of name.Less, grove.Greatest, grove.Spanning. -/
import Derived.Test.YtholhmdmpomabaaGroD
namespace Go.Proofs.Ytholhmdmpomabaa
open Go.RowKit Pt
set_option linter.unusedVariables false

def edV (e : Ed) : Value := .agg #[.int .i64 e.1, .int .i64 e.2.1, .int .i64 e.2.2]
def lessE (a b : Ed) : Bool := decide (a.1 < b.1) || (decide (a.1 = b.1) && decide (a.2.1 < b.2.1))
theorem less_any (x y t x2 y2 t2 : Int) (w : World) :
    Calls Try.prog 24 #[.agg #[.int .i64 x, .int .i64 y, .int .i64 t], .agg #[.int .i64 x2, .int .i64 y2, .int .i64 t2]] w fun e w' => e = .returned (.bool (lessE (x, y, t) (x2, y2, t2))) ∧ Below w.heap.size w w' := by
  have hb : Below w.heap.size w ((w.alloc (.cells #[.int .i64 x, .int .i64 y, .int .i64 t] 29)).alloc (.cells #[.int .i64 x2, .int .i64 y2, .int .i64 t2] 29)) := Bl.new (bel_new _ _) _
  have HB := hid hb
  clear hb
  rcases Int.lt_trichotomy x x2 with h | h | h
  · have H : Hid (lessE (x, y, t) (x2, y2, t2) = true) := hid (by simp [lessE, h])
    go_enter Try.func24, Try.ntmps24
    go_wp2
    go_ret
    exact ⟨ret_bool H.out.symm, HB.out⟩
  · subst h
    have h1 : ¬ x < x := by omega
    have e1 : (x == x) = true := by simp
    by_cases hy : y < y2
    · have H : Hid (lessE (x, y, t) (x, y2, t2) = true) := hid (by simp [lessE, hy])
      go_enter Try.func24, Try.ntmps24
      go_wp2
      go_ret
      exact ⟨ret_bool H.out.symm, HB.out⟩
    · have H : Hid (lessE (x, y, t) (x, y2, t2) = false) := hid (by simp [lessE, hy])
      go_enter Try.func24, Try.ntmps24
      go_wp2
      go_ret
      exact ⟨ret_bool H.out.symm, HB.out⟩
  · have h1 : ¬ x < x2 := by omega
    have e1 : (x == x2) = false := by simp; omega
    have H : Hid (lessE (x, y, t) (x2, y2, t2) = false) := hid (by simp [lessE]; omega)
    go_enter Try.func24, Try.ntmps24
    go_wp2
    go_ret
    exact ⟨ret_bool H.out.symm, HB.out⟩
theorem less_is {x y t x2 y2 t2 : Int} (b : Bool) (h : lessE (x, y, t) (x2, y2, t2) = b) (w : World) :
    Calls Try.prog 24 #[.agg #[.int .i64 x, .int .i64 y, .int .i64 t], .agg #[.int .i64 x2, .int .i64 y2, .int .i64 t2]] w fun e w' => e = .returned (.bool b) ∧ Below w.heap.size w w' := by
  rw [← h]; exact less_any x y t x2 y2 t2 w

/-! ## Spanning -/
def spK (n : Nat) (l : List Ed) : Nat → List Ed × List Int
  | 0 => ([], idl n)
  | k + 1 => match l[k]? with
    | some e => if g (spK n l k).2 e.1 = g (spK n l k).2 e.2.1 then spK n l k else ((spK n l k).1 ++ [e], joinF (spK n l k).2 e.1 e.2.1)
    | none => spK n l k
theorem len_joinF (p : List Int) (u v : Int) : (joinF p u v).length = p.length := by unfold joinF; split <;> simp [len_join]
theorem spK_len (n : Nat) (l : List Ed) (k : Nat) : (spK n l k).2.length = n ∧ (spK n l k).1.length ≤ k := by
  induction k with
  | zero => exact ⟨len_idl n, by simp [spK]⟩
  | succ k ih =>
    unfold spK
    split
    · split
      · exact ⟨ih.1, by omega⟩
      · exact ⟨by rw [len_joinF]; exact ih.1, by simp; omega⟩
    · exact ⟨ih.1, by omega⟩
theorem spK_eq {n : Nat} {l : List Ed} {k : Nat} (h : k < l.length) (he : g (spK n l k).2 l[k].1 = g (spK n l k).2 l[k].2.1) : spK n l (k + 1) = spK n l k := by
  conv => lhs; unfold spK
  rw [List.getElem?_eq_getElem h]
  simp [he]
theorem spK_ne {n : Nat} {l : List Ed} {k : Nat} (h : k < l.length) (he : ¬ g (spK n l k).2 l[k].1 = g (spK n l k).2 l[k].2.1) : spK n l (k + 1) = ((spK n l k).1 ++ [l[k]], joinF (spK n l k).2 l[k].1 l[k].2.1) := by
  conv => lhs; unfold spK
  rw [List.getElem?_eq_getElem h]
  simp [he]

theorem spK_right {n : Nat} {l : List Ed} (hm : mayB n l = true) (k : Nat) : rightB (spK n l k).2 = true := by
  induction k with
  | zero => exact (rightB_iff _).2 (Rt_idl n)
  | succ k ih =>
    by_cases hk : k < l.length
    · by_cases he : g (spK n l k).2 l[k].1 = g (spK n l k).2 l[k].2.1
      · rw [spK_eq hk he]; exact ih
      · rw [spK_ne hk he]
        have h := (mayB_iff n l).1 hm (l[k].1, l[k].2.1) (List.mem_map.2 ⟨l[k], List.getElem_mem _, rfl⟩)
        have hl := (spK_len n l k).1
        unfold joinF
        split
        · exact (rightB_iff _).2 (((rightB_iff _).1 ih).join (by rw [hl]; exact h.1) (by rw [hl]; exact h.2))
        · exact ih
    · have : spK n l (k + 1) = spK n l k := by
        conv => lhs; unfold spK
        rw [List.getElem?_eq_none (by omega)]
      rw [this]; exact ih
/-- The slice v lies in another block than the row s. -/
def Apart (v s : Value) : Prop := ∀ b o n c, v = .slice (some ⟨b, o, none⟩) n c → s.ownBlock ≠ some b
def SpPost (n : Nat) (l : List Ed) (w : World) (e : Ending) (w' : World) : Prop :=
  ∃ v', e = .returned (.tuple #[v', .int .i64 0]) ∧ Sl w' w'.heap.size 3 v' (spK n l l.length).1.length (eds (spK n l l.length).1) ∧ Below w.heap.size w w'

set_option maxHeartbeats 2000000 in
theorem spanning_any {n : Nat} (hn : n ≤ 1024) {v0 : Value} {m : Nat} {l : List Ed} {w : World} (hs : Sl w w.heap.size 3 v0 m (eds l)) (hm : mayB n l = true) (hlen : l.length ≤ 1024) :
    Calls Try.prog 16 #[.int .i64 n, v0] w (SpPost n l w) := by
  have hl : l.length = m := by have := hs.len; rw [len_eds] at this; omega
  subst hl
  have HS := hid hs
  have HM := hid hm
  clear hs hm
  go_enter Try.func16, Try.ntmps16
  go_wp2_with fail
  refine (of_ok hn HS.out (Nat.le_refl _) HM.out).mono ?_; rintro e w1 ⟨v1, rfl, hS1, b1⟩
  have HB1 := hid b1
  have HS1 := hid (HS.out.call b1)
  clear b1 hS1
  go_wp2_with fail
  refine (of_ok hn (l := []) (Sl.none_ w1 w1.heap.size 3) (Nat.le_refl _) rfl).mono ?_; rintro e w2 ⟨v2, rfl, hS2, b2⟩
  have HB2 := hid (Bl.call HB1.out b2)
  have HS2 := hid (HS1.out.call b2)
  have HP0 : Hid (Sl w2 w2.heap.size 1 v2 n (ints (spK n l 0).2)) := hid hS2
  obtain ⟨A, c, hv0, hnc, hcm, hll, hx⟩ := HS2.out
  subst hv0
  have HX := hid hx
  have hcm' : (l.length : Int) ≤ 1024 := by omega
  clear hx hll b2 hS2
  go_wp2_with fail
  go_loopw [8, 10, 29] (fun pv sv iv wr => ∃ (k : Nat), iv = .int .i64 (k : Int) ∧ k ≤ l.length ∧ Hid (Sl wr wr.heap.size 1 pv n (ints (spK n l k).2)) ∧ Hid (wr.ownsRow w2.heap.size 29 3 sv (spK n l k).1.length (eds (spK n l k).1)) ∧ Hid (Below w2.heap.size w2 wr) ∧ Hid (Apart pv sv)) (fun _ _ i _ => l.length - (intOf i).toNat)
  case atStart => exact ⟨0, rfl, Nat.zero_le _, HP0, World.ownsRow_nil _ _ _ _, hid (Below.refl _ _), hid (fun _ _ _ _ _ e => by cases e)⟩
  case round =>
    clear HP0
    obtain ⟨k, rfl, hk, HP, HO, HB, HAP⟩ := hrel
    by_cases hlt : k < l.length
    · have hkl : (k : Int) < (l.length : Int) := by omega
      obtain ⟨bl, ol, rfl, hbl, hcl⟩ := HX.out (by omega)
      obtain ⟨q0, q1, q2⟩ := eds_cell hcl hlt
      have r0 := (HB.out.cell (p := ⟨bl, ol + k * 3, none⟩) hbl).trans q0
      have r1 := (HB.out.cell (p := ⟨bl, ol + k * 3 + 1, none⟩) hbl).trans q1
      have r2 := (HB.out.cell (p := ⟨bl, ol + k * 3 + 2, none⟩) hbl).trans q2
      have HMay := hid ((mayB_iff n l).1 HM.out (l[k].1, l[k].2.1) (List.mem_map.2 ⟨l[k], List.getElem_mem _, rfl⟩))
      have HEQ := hid (fun h => spK_eq (n := n) hlt h)
      have HNE' := hid (fun h => spK_ne (n := n) hlt h)
      have hln := spK_len n l k
      have HRT := hid (spK_right HM.out k)
      generalize l[k] = ed at r0 r1 r2 HMay HEQ HNE'
      obtain ⟨x, y, t⟩ := ed
      dsimp only at r0 r1 r2
      generalize spK n l k = sp at HP HO HEQ HNE' hln HRT
      obtain ⟨S, P⟩ := sp
      dsimp only at hln
      have HP' : Hid (Sl wr wr.heap.size 1 u8 n (ints P)) := HP
      have HO' : Hid (wr.ownsRow w2.heap.size 29 3 u10 S.length (eds S)) := HO
      clear HP HO q0 q1 q2 hcl
      obtain ⟨⟨x0, x1⟩, y0, y1⟩ := HMay.out
      obtain ⟨A2, c2, hpv, hnc2, hcm2, hll2, hx2⟩ := HP'.out
      subst hpv
      obtain ⟨bp, op, rfl, hbp, hcp⟩ := hx2 (by omega)
      dsimp only at x0 x1 y0 y1
      have d0 := ints_cell hcp (k := x.toNat) (by omega)
      have d1 := ints_cell hcp (k := y.toNat) (by omega)
      obtain ⟨gx, hgx⟩ : ∃ gx, gx = g P x := ⟨_, rfl⟩
      obtain ⟨gy, hgy⟩ : ∃ gy, gy = g P y := ⟨_, rfl⟩
      have d0' : wr.cell? ⟨bp, op + x.toNat, none⟩ = some (.int .i64 gx) := by rw [hgx]; exact d0
      have d1' : wr.cell? ⟨bp, op + y.toNat, none⟩ = some (.int .i64 gy) := by rw [hgy]; exact d1
      have n0 := World.new_ne wr ⟨bp, op + x.toNat, none⟩ d0'
      have n1 := World.new_ne wr ⟨bp, op + y.toNat, none⟩ d1'
      have HG := hid (And.intro hgx hgy)
      have HLN := hid hln
      clear d0 d1 hcp hx2 hll2 hgx hgy hln
      by_cases he : gx = gy
      · have t0 : (gx != gy) = false := by simp [he]
        have HE := hid he
        clear he
        go_wp2_with fail
        go_quiet (fail)
        go_wp2
        go_roundw
        case rel =>
          have e0 := HEQ.out (by rw [← HG.out.1, ← HG.out.2, HE.out])
          refine ⟨k + 1, by go_num, by omega, ?_, ?_, ?_, HAP⟩
          · rw [e0]; exact hid ((HP'.out.new _).cqt (qt_of _ _))
          · rw [e0]; exact hid (own_below (HO'.out.alloc _) (qt_of _ _).bel)
          · exact hid ((HB.out.alloc HB.out.size _).trans ((qt_of _ _).below _))
        case measure => simp [intOf]; omega
      · have t0 : (gx != gy) = true := by simp [he]
        have HE := hid he
        clear he
        obtain ⟨KE, hKE⟩ : ∃ KE, KE = wr.heap.size := ⟨_, rfl⟩
        have HKE := hid hKE
        clear hKE
        go_wp2_with fail
        go_quiet (fail)
        obtain ⟨w3, hw3⟩ : ∃ w3, w3 = (wr.alloc (.cells #[.int .i64 x, .int .i64 y, .int .i64 t] 29)).drewN nq := ⟨_, rfl⟩
        obtain ⟨w5, hw5⟩ : ∃ w5, w5 = w3.alloc (.cells #[.int .i64 x, .int .i64 y, .int .i64 t] 29) := ⟨_, rfl⟩
        have hb3 : Below wr.heap.size wr w3 := by rw [hw3]; exact (bel_new _ _).trans ((qt_of _ _).below _)
        have hz3 : w3.heap.size = wr.heap.size + 1 := by rw [hw3]; simp
        have hb5 : Below wr.heap.size wr w5 := hb3.trans (by rw [hw5]; exact (bel_new w3 _).mono hb3.size)
        have HO5 := hid (own_below HO'.out hb5)
        have HP5 := hid (HP'.out.call hb5)
        have HB5 := hid (HB.out.trans (hb5.mono HB.out.size))
        have HK3 : Blk w3 wr.heap.size 29 [.int .i64 x, .int .i64 y, .int .i64 t] := by rw [hw3]; exact (Blk.new wr _ [.int .i64 x, .int .i64 y, .int .i64 t]).below (B := (wr.alloc (.cells #[.int .i64 x, .int .i64 y, .int .i64 t] 29)).heap.size) (qt_of _ _).bel (by simp)
        have HK5 : Hid (Blk w5 wr.heap.size 29 [.int .i64 x, .int .i64 y, .int .i64 t]) := hid (by rw [hw5]; exact HK3.alloc _)
        have HN5 : Hid (Blk w5 (wr.heap.size + 1) 29 [.int .i64 x, .int .i64 y, .int .i64 t]) := hid (by
          rw [hw5, ← hz3]
          exact Blk.new w3 _ [.int .i64 x, .int .i64 y, .int .i64 t])
        have HNE : Hid (some wr.heap.size ≠ u10.ownBlock) := hid (fun e => by have := (HO'.out.lt _ e.symm).2; omega)
        have HW35 := hid hb5.size
        have HW3 := hid hw3
        have HW5 := hid hw5
        have HOK : Hid (rightB P = true ∧ placeB P.length x = true ∧ placeB P.length y = true) := hid ⟨HRT.out, (placeB_iff _ _).2 (by rw [HLN.out.1]; exact ⟨x0, x1⟩), (placeB_iff _ _).2 (by rw [HLN.out.1]; exact ⟨y0, y1⟩)⟩
        have HLS : Hid (S.length ≤ 1024) := hid (by have := HLN.out.2; omega)
        clear hw3 hw5 hb3 hz3 hb5 HK3 r0 r1 r2
        rw [← HW3.out]
        have k0 : w3.cell? ⟨wr.heap.size, 0, none⟩ = some (.int .i64 x) := by rw [HW3.out]; exact (Blk.new wr _ [.int .i64 x, .int .i64 y, .int .i64 t]).cell 0
        have k1 : w3.cell? ⟨wr.heap.size, 1, none⟩ = some (.int .i64 y) := by rw [HW3.out]; exact (Blk.new wr _ [.int .i64 x, .int .i64 y, .int .i64 t]).cell 1
        have k2 : w3.cell? ⟨wr.heap.size, 2, none⟩ = some (.int .i64 t) := by rw [HW3.out]; exact (Blk.new wr _ [.int .i64 x, .int .i64 y, .int .i64 t]).cell 2
        go_wp2_with (at_builtin; rw [← HW5.out]; (refine wl_appG rfl _ _ Teds rfl rfl HO5.out rfl (by first | exact HN5.out | (rw [show w3.heap.size = wr.heap.size + 1 by rw [HW3.out]; simp]; exact HN5.out)) rfl (eds_one [(x, y, t)]) (by have := HLS.out; omega) HB5.out.size ?_))
        intro v3 w6 hO6 hG6 gb gc hv3
        subst hv3
        have HO6 := hid hO6
        have HB6 := hid (HB5.out.trans (hG6.below HO5.out HB5.out.size))
        have hK6 := hG6.blk HK5.out HNE.out
        have j0 := hK6.cell 0
        have j1 := hK6.cell 1
        have hP6 : Hid (Sl w6 w6.heap.size 1 (.slice (some ⟨bp, op, none⟩) n c2) n (ints P)) := hid (by
          refine ⟨some ⟨bp, op, none⟩, c2, rfl, hnc2, hcm2, by rw [len_ints]; have := HLN.out.1; omega, fun _ => ⟨bp, op, rfl, ?_, fun j u hu => ?_⟩⟩
          · exact Nat.lt_of_lt_of_le (Nat.lt_of_lt_of_le hbp HW35.out) hG6.1.size
          · rw [hG6.1.cell_far ⟨bp, op + j, none⟩ (Nat.lt_of_lt_of_le hbp HW35.out) (fun e => HAP.out _ _ _ _ rfl e.symm)]
            have hsl5 := HP5.out
            obtain ⟨A5, c5, e5, _, _, _, hx5⟩ := hsl5
            injection e5 with e5 _ _
            subst e5
            obtain ⟨b5, o5, e6, _, hc5⟩ := hx5 (by omega)
            injection e6 with e6
            injection e6 with e6 e7 _
            subst e6 e7
            exact hc5 j u hu)
        have HAP2 : Hid (∀ g cap' : Nat, some g = some gb → g < w6.heap.size) := hid (fun g _ e => by
          have := (hO6.lt gb rfl).2
          injection e with e; omega)
        clear hO6 hG6 hK6 k0 k1 k2
        go_wp2_with fail
        refine (join_own _ _ _ _ _ _ _ hP6.out (Nat.le_refl _) (by omega) HOK.out).mono ?_; rintro e w7 ⟨v7, rfl, hS7, b7⟩
        have HS7 := hid (Sl.of_own hS7)
        have HAP7 : Hid (Apart v7 (.slice (some ⟨gb, 0, none⟩) (S.length + 1) gc)) := hid (fun b o n' c' e e2 => by
          subst e
          have h1 : b = gb := by simpa [Value.ownBlock] using e2.symm
          have h2 := HAP2.out b 0 (by rw [h1])
          rcases hS7.2 with ⟨h3, _⟩ | ⟨k7, cap7, cur7, h3, h4, _⟩
          · cases h3
          · injection h3 with h3 _ _
            injection h3 with h3
            injection h3 with h3 _ _
            omega)
        have HB7 := hid (HB6.out.trans (b7.mono HB6.out.size))
        have HO7 := hid (own_below HO6.out b7)
        clear hS7 b7 j0 j1
        go_wp2
        go_roundw
        case rel =>
          have e0 := HNE'.out (by rw [← HG.out.1, ← HG.out.2]; exact HE.out)
          refine ⟨k + 1, by go_num, by omega, ?_, ?_, HB7, HAP7⟩
          · rw [e0]; exact HS7
          · rw [e0, ← eds_app, List.length_append]; exact HO7
        case measure => simp [intOf]; omega
    · obtain rfl : k = l.length := by omega
      have hkl : ¬ (l.length : Int) < (l.length : Int) := by omega
      go_wp2
      go_ret2
      exact ⟨_, rfl, Sl.of_own HO.out, HB2.out.trans (HB.out.mono HB2.out.size)⟩
end Go.Proofs.Ytholhmdmpomabaa
