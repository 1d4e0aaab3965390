/- Contracts of dict.Put, dict.Delete. -/
import Derived.Test.YtbafbnkmmpaomaaDicB
namespace Go.Proofs.Ytbafbnkmmpaomaa
open Go.RowKit Sq
set_option linter.unusedVariables false
attribute [local go_sem ↓] Go.wp_at_zero Go.wp_at_succ

def PutPost (w : World) (l : List (Int × Int)) (e : Ending) (w' : World) : Prop := ∃ v, e = .returned (.agg #[.pointer v]) ∧ IsD w' v l ∧ Below w.heap.size w w'
theorem IsTr.other {w : World} {B K : Nat} {T : TypeId} {u : Value} {v : Option Addr} {t : Tr (Int × Int)} (h : IsTr w B v t) (hb : Blk w K T [u]) (u' : Value) : IsTr (w.setCell ⟨K, 0, none⟩ u') B v t := by
  induction t generalizing v with
  | nil => exact h
  | node a x b iha ihb =>
    obtain ⟨k, va, vb, hv, hlt, h0, h1, h2, h2', h3, h4, ha, hb'⟩ := h
    have hk : k ≠ K := by
      rintro rfl
      rw [hb.cell 1] at h1
      simp at h1
    have hc : ∀ o, (w.setCell ⟨K, 0, none⟩ u').cell? ⟨k, o, none⟩ = w.cell? ⟨k, o, none⟩ := fun o => World.cell?_of_block (w := w) (Below.heap_setCell w _ _ k hk)
    exact ⟨k, va, vb, hv, hlt, (hc 0).trans h0, (hc 1).trans h1, (hc 2).trans h2, (hc 3).trans h2', (hc 4).trans h3, (hc 5).trans h4, iha ha, ihb hb'⟩
theorem sz_single (x : Int × Int) : sz (.node .nil x .nil) ≤ 1000000 := by simp [sz]
theorem bal_single (x : Int × Int) : Bal (.node .nil x .nil) := ⟨trivial, trivial, Nat.zero_le _, Nat.zero_le _⟩
theorem put_tree {t o2 : Tr (Int × Int)} {k n : Int} {i : Nat} (hb : Bal t) (hs : Dc.Srt (ls t)) (hi : i = Dc.less (ls t) k) (hb2 : Bal o2) (ho : ls o2 = if Dc.get (ls t) k = none then (ls t).drop i else (ls t).drop (i + 1)) :
    Bal (join (split t i).1 (join (.node .nil (k, n) .nil) o2)) ∧ ls (join (split t i).1 (join (.node .nil (k, n) .nil) o2)) = Dc.put (ls t) k n := by
  refine ⟨bal_join _ _ (bal_split t i hb).1 (bal_join _ _ (bal_single _) hb2), ?_⟩
  rw [ls_join, ls_join, (ls_split t i).1, Int.toNat_natCast, ho, hi]
  simp only [ls, List.nil_append, List.cons_append]
  exact Dc.put_code hs k n
theorem split_len (t : Tr (Int × Int)) (i : Nat) : sz (split t i).2 = sz t - i := by
  rw [← len_ls, (ls_split t i).2, Int.toNat_natCast, List.length_drop, len_ls]
theorem split_at (t : Tr (Int × Int)) (i : Nat) : (ls (split t i).2)[0]? = (ls t)[i]? := by
  rw [(ls_split t i).2, Int.toNat_natCast, List.getElem?_drop, Nat.add_zero]

set_option maxRecDepth 100000 in
set_option maxHeartbeats 8000000 in
theorem put_any {pt : Option Addr} {l : List (Int × Int)} {k n : Int} {w : World} (h : IsD w pt l) (hl : l.length ≤ 100000) :
    Calls Try.prog 61 #[.agg #[.pointer pt], .int .u64 k, .int .i64 n] w (PutPost w (Dc.put l k n)) := by
  obtain ⟨t, ht, hbal, hls, hsrt⟩ := h
  subst hls
  have hsz : sz t ≤ 100000 := by rw [← len_ls]; exact hl
  have hlen : (ls t).length = sz t := len_ls t
  have hat := Dc.at_less hsrt k
  have hput := Dc.srt_put hsrt k n
  obtain ⟨K, hK⟩ : ∃ K, K = w.heap.size := ⟨_, rfl⟩
  obtain ⟨w0, hw0⟩ : ∃ w0, w0 = (w.alloc (.cells #[.pointer pt] 86)).alloc (.cells #[.pointer none] 86) := ⟨_, rfl⟩
  have B0 : Hid (Below w.heap.size w w0) := hid (by rw [hw0]; exact Bl.new (bel_new w _) _)
  have x0 : w0.cell? ⟨K, 0, none⟩ = some (.pointer pt) := by rw [hw0, hK]; exact ((Blk.new w _ [.pointer pt]).alloc _).cell 0
  have HR : Hid (Blk w0 (K + 1) 86 [.pointer none] ∧ w0.heap.size = K + 2) := hid (by
    have := Blk.new (w.alloc (.cells #[.pointer pt] 86)) 86 [.pointer none]
    rw [hw0, hK]; simpa using this)
  have HT : Hid (IsTr w0 w0.heap.size pt t) := hid (by rw [hw0]; exact (ht.new _).new _)
  have HW := hid hw0
  have HK := hid hK
  have HB := hid hbal
  have HP := hid hput
  have HSR := hid hsrt
  obtain ⟨i, hi⟩ : ∃ i, i = Dc.less (ls t) k := ⟨_, rfl⟩
  have hile : i ≤ sz t := by rw [hi, ← len_ls]; exact Dc.less_le _ _
  have FC : Hid (∀ w : World, IsTr w w.heap.size pt t → Calls Try.prog 68 #[.agg #[.pointer pt], .int .u64 k] w (SearchPost w i)) := hid (fun w h => by rw [hi]; exact from_any h (by omega) hsrt)
  have SC : Hid (∀ w : World, IsTr w w.heap.size pt t → Calls Try.prog 69 #[.pointer pt, .int .i64 (i : Int)] w (SpPost w t i)) := hid (fun w h => split_any h (by omega) (by omega))
  rw [← hi] at hat
  have HI := hid hi
  have hsl := split_len t i
  have hsa := split_at t i
  have hso := (ls_split t (i : Int)).2
  rw [Int.toNat_natCast] at hso
  have hb2 := (bal_split t (i : Int) hbal).2
  have hz1 := (split_sz t (i : Int)).1
  obtain ⟨o, ho⟩ : ∃ o, o = (split t (i : Int)).2 := ⟨_, rfl⟩
  rw [← ho] at hsl hsa hso hb2
  have HO := hid ho
  have HZ1 : Hid (sz (split t (i : Int)).1 ≤ 1000000) := hid (by omega)
  rcases Nat.lt_or_ge i (sz t) with hlt | hge
  · have hlt' : i < (ls t).length := by rw [hlen]; exact hlt
    rw [List.getElem?_eq_getElem hlt', Option.bind_some] at hat
    rw [List.getElem?_eq_getElem hlt'] at hsa
    obtain ⟨x, hx⟩ : ∃ x, x = (ls t)[i] := ⟨_, rfl⟩
    rw [← hx] at hat hsa
    have AC : Hid (∀ (w : World) (v : Option Addr), IsTr w w.heap.size v o → Calls Try.prog 67 #[.pointer v, .int .i64 0] w (AtPost w x true)) := hid (fun w v h => by
      have := at_in (i := 0) h (by omega) (by omega)
      rw [atT_ls, hsa, Option.getD_some] at this
      exact this)
    have SZ : Hid (sz o ≤ 100000) := hid (by omega)
    clear hx hsa
    by_cases hk : x.1 = k
    · have hne : (x.1 == k) = true := by simp [hk]
      have HG : Hid (Dc.get (ls t) k = some x.2) := hid (by rw [hat, if_pos hk])
      have o2z := (split_sz o 1).2
      have SZO : Hid (sz (split o 1).2 ≤ 100000) := hid (by omega)
      have FIN := hid (put_tree (n := n) HB.out HSR.out HI.out (bal_split o 1 hb2).2 (by rw [(ls_split o 1).2, hso, HG.out, if_neg (by simp)]; simp))
      clear hk hat hso hb2 hl hlen hsz hlt hsl hbal hsrt hput hi hz1 hw0 hK ht o2z ho
      go_enter Try.func61, Try.ntmps61
      go_wp2_with fail
      rw [← HK.out, ← HW.out]
      go_region_held3 (fun w' => w'.cell? ⟨K, 0, none⟩ = some (.pointer pt))
        (first | go_keep | (go_split_ands; and_intros <;> (first | (refine cell_later (by assumption) ?_; first | assumption | (rw [Qt.cell (qt_of _ _)]; assumption) | (rw [Qt.cell (qt_drew _)]; assumption)) | (refine cell_later (bel_new _ _) ?_; assumption))) | (refine cell_later (by assumption) ?_; first | assumption | (rw [Qt.cell (qt_of _ _)]; assumption) | (rw [Qt.cell (qt_drew _)]; assumption)) | (refine cell_later (bel_new _ _) ?_; assumption))
        (first | (go_at_call 68; (with_reducible refine (FC.out _ (by repeat (first | exact HT.out | refine IsTr.new ?_ _ | refine IsTr.cqt ?_ (qt_drew _) | refine IsTr.cqt ?_ (qt_of _ _) | refine IsTr.call ?_ (by assumption) | refine IsTr.cqt ?_ (by assumption)))).mono ?_); rintro e w1 ⟨rfl, b1⟩)
               | (go_at_call 69; (with_reducible refine (SC.out _ (by repeat (first | exact HT.out | refine IsTr.new ?_ _ | refine IsTr.cqt ?_ (qt_drew _) | refine IsTr.cqt ?_ (qt_of _ _) | refine IsTr.call ?_ (by assumption) | refine IsTr.cqt ?_ (by assumption)))).mono ?_); rintro e w2 ⟨v1, v2, rfl, g1, g2, b2⟩))
      have G1 := hid g1
      have G2 : Hid (IsTr w2 w2.heap.size v2 o) := hid (by rw [HO.out]; exact g2)
      have R2 : Hid (Blk w2 (K + 1) 86 [.pointer none] ∧ K + 2 ≤ w2.heap.size) := hid (by
        have hb : Below w0.heap.size w0 w2 := (by repeat (first | exact Below.refl _ _ | exact Qt.bel (qt_drew _) | exact Qt.bel (qt_of _ _) | refine Bl.call ?_ (by assumption) | refine Bl.qt ?_ (qt_drew _) | refine Bl.qt ?_ (qt_of _ _)))
        exact ⟨HR.out.1.below hb (by rw [HR.out.2]; omega), by rw [← HR.out.2]; exact hb.size⟩)
      have B2 : Hid (Below w.heap.size w w2) := hid (by repeat (first | exact B0.out | exact Below.refl _ _ | refine Below.setCell ?_ (by have h0 := B0.out.size; simp; omega) _ | refine Bl.new ?_ _ | refine Bl.call ?_ (by assumption) | refine Bl.qt ?_ (by assumption) | refine Bl.qt ?_ (qt_drew _) | refine Bl.qt ?_ (qt_of _ _)))
      clear g1 g2 b1 b2
      go_wp2_with fail
      refine (AC.out _ _ G2.out).mono ?_; rintro e w3 ⟨rfl, b3⟩
      have G13 := hid (G1.out.call b3)
      have G23 := hid (G2.out.call b3)
      have B3 := hid (Bl.call B2.out b3)
      have R3 : Hid (Blk w3 (K + 1) 86 [.pointer none] ∧ K + 2 ≤ w3.heap.size) := hid ⟨R2.out.1.below b3 (by have := R2.out.2; omega), Nat.le_trans R2.out.2 b3.size⟩
      clear b3
      go_wp2_with fail
      refine (split_any (i := 1) (G23.out.new _) (by have := SZ.out; omega) (by omega)).mono ?_; rintro e wc ⟨va, vo, rfl, ga, gb, b4⟩
      have BC := hid (Bl.call (Bl.new B3.out _) b4)
      have G1c := hid ((G13.out.new _).call b4)
      have GO := hid gb
      have RC : Hid (Blk wc (K + 1) 86 [.pointer none] ∧ K + 2 ≤ wc.heap.size) := hid ⟨(R3.out.1.alloc _).below b4 (by have := R3.out.2; simp; omega), by have := b4.size; have := R3.out.2; simp at *; omega⟩
      clear ga gb b4
      go_wp2_with fail
      obtain ⟨u1, hu1⟩ : ∃ u1, u1 = wc.alloc (.cells #[.int .u64 k, .int .i64 n] 110) := ⟨_, rfl⟩
      have U1 := hid hu1
      have y0 : u1.cell? ⟨wc.heap.size, 0, none⟩ = some (.int .u64 k) := by rw [hu1]; exact (Blk.new wc _ [.int .u64 k, .int .i64 n]).cell 0
      have y1 : u1.cell? ⟨wc.heap.size, 1, none⟩ = some (.int .i64 n) := by rw [hu1]; exact (Blk.new wc _ [.int .u64 k, .int .i64 n]).cell 1
      have OC := hid (of_one (x := (k, n)) y0 y1)
      have BU : Hid (Below w.heap.size w u1) := hid (by rw [hu1]; exact Bl.new BC.out _)
      have G1u : Hid (IsTr u1 u1.heap.size v1 (split t (i : Int)).1) := hid (by rw [hu1]; exact G1c.out.new _)
      have GOu : Hid (IsTr u1 u1.heap.size vo (split o 1).2) := hid (by rw [hu1]; exact GO.out.new _)
      have RU : Hid (Blk u1 (K + 1) 86 [.pointer none] ∧ K + 2 ≤ u1.heap.size) := hid (by rw [hu1]; exact ⟨RC.out.1.alloc _, by have := RC.out.2; simp; omega⟩)
      clear hu1 y0 y1
      rw [← U1.out]
      refine OC.out.mono ?_; rintro e w5 ⟨v5, rfl, g5, b5⟩
      have G5 := hid g5
      have G15 := hid (G1u.out.call b5)
      have GO5 := hid (GOu.out.call b5)
      have B5 := hid (Bl.call BU.out b5)
      have R5 : Hid (Blk w5 (K + 1) 86 [.pointer none] ∧ K + 2 ≤ w5.heap.size) := hid ⟨RU.out.1.below b5 (by have := RU.out.2; omega), Nat.le_trans RU.out.2 b5.size⟩
      clear g5 b5
      go_wp2_with fail
      refine (join_any G5.out GO5.out (sz_single _) (by have := SZO.out; omega)).mono ?_; rintro e w6 ⟨v6, rfl, g6, b6⟩
      have G6 := hid g6
      have G16 := hid (G15.out.call b6)
      have B6 := hid (Bl.call B5.out b6)
      have R6 : Hid (Blk w6 (K + 1) 86 [.pointer none] ∧ K + 2 ≤ w6.heap.size) := hid ⟨R5.out.1.below b6 (by have := R5.out.2; omega), Nat.le_trans R5.out.2 b6.size⟩
      clear g6 b6
      go_wp2_with fail
      refine (join_any G16.out G6.out HZ1.out (by rw [sz_join]; have := SZO.out; simp only [sz]; omega)).mono ?_; rintro e w7 ⟨v7, rfl, g7, b7⟩
      have R7 : Blk w7 (K + 1) 86 [.pointer none] := R6.out.1.below b7 (by have := R6.out.2; omega)
      have z0 : w7.cell? ⟨K + 1, 0, none⟩ = some (.pointer none) := R7.cell 0
      have z1 : w7.frozen? ⟨K + 1, 0, none⟩ = false := R7.frozen 0
      have P7 := hid (R7.put 0 (.pointer v7))
      have B7 := hid (Bl.call B6.out b7)
      have G7 := hid g7
      have E1 : Hid (Below w7.heap.size w7 w7) := hid (Below.refl _ _)
      have BF : Hid (Below (K + 1) w7 (w7.setCell ⟨K + 1, 0, none⟩ (.pointer v7))) := hid ((Below.refl (K + 1) w7).setCell (p := ⟨K + 1, 0, none⟩) (Nat.le_refl _) _)
      have R7h := hid R7
      clear R7 g7 b7
      go_wp2_with fail
      have z2 := P7.out.cell 0
      have BE : Hid (Below w.heap.size w (w7.setCell ⟨K + 1, 0, none⟩ (.pointer v7))) := hid (B7.out.setCell (by rw [HK.out]; simp) _)
      have GE : Hid (IsTr (w7.setCell ⟨K + 1, 0, none⟩ (.pointer v7)) (w7.setCell ⟨K + 1, 0, none⟩ (.pointer v7)).heap.size v7 (join (split t (i : Int)).1 (join (.node .nil (k, n) .nil) (split o 1).2))) := hid (by have := G7.out.other R7h.out (.pointer v7); simpa [World.setCell] using this)
      generalize w7.setCell ⟨K + 1, 0, none⟩ (.pointer v7) = w8 at *
      exact bodyPost_ret (v := .agg #[.pointer v7]) (by simp [results, Try.results61, go_sem, z2]) rfl ⟨v7, rfl, ⟨_, GE.out, FIN.out.1, FIN.out.2, HP.out⟩, BE.out⟩
    · have hne : (x.1 == k) = false := by simp [hk]
      have HG : Hid (Dc.get (ls t) k = none) := hid (by rw [hat, if_neg hk])
      have FIN := hid (put_tree (n := n) HB.out HSR.out HI.out hb2 (by rw [hso, HG.out, if_pos rfl]))
      clear hk hat hso hb2 hl hlen hsz hlt hsl hbal hsrt hput hi hz1 hw0 hK ht ho
      go_enter Try.func61, Try.ntmps61
      go_wp2_with fail
      rw [← HK.out, ← HW.out]
      go_region_held3 (fun w' => w'.cell? ⟨K, 0, none⟩ = some (.pointer pt))
        (first | go_keep | (go_split_ands; and_intros <;> (first | (refine cell_later (by assumption) ?_; first | assumption | (rw [Qt.cell (qt_of _ _)]; assumption) | (rw [Qt.cell (qt_drew _)]; assumption)) | (refine cell_later (bel_new _ _) ?_; assumption))) | (refine cell_later (by assumption) ?_; first | assumption | (rw [Qt.cell (qt_of _ _)]; assumption) | (rw [Qt.cell (qt_drew _)]; assumption)) | (refine cell_later (bel_new _ _) ?_; assumption))
        (first | (go_at_call 68; (with_reducible refine (FC.out _ (by repeat (first | exact HT.out | refine IsTr.new ?_ _ | refine IsTr.cqt ?_ (qt_drew _) | refine IsTr.cqt ?_ (qt_of _ _) | refine IsTr.call ?_ (by assumption) | refine IsTr.cqt ?_ (by assumption)))).mono ?_); rintro e w1 ⟨rfl, b1⟩)
               | (go_at_call 69; (with_reducible refine (SC.out _ (by repeat (first | exact HT.out | refine IsTr.new ?_ _ | refine IsTr.cqt ?_ (qt_drew _) | refine IsTr.cqt ?_ (qt_of _ _) | refine IsTr.call ?_ (by assumption) | refine IsTr.cqt ?_ (by assumption)))).mono ?_); rintro e w2 ⟨v1, v2, rfl, g1, g2, b2⟩))
      have G1 := hid g1
      have G2 : Hid (IsTr w2 w2.heap.size v2 o) := hid (by rw [HO.out]; exact g2)
      have R2 : Hid (Blk w2 (K + 1) 86 [.pointer none] ∧ K + 2 ≤ w2.heap.size) := hid (by
        have hb : Below w0.heap.size w0 w2 := (by repeat (first | exact Below.refl _ _ | exact Qt.bel (qt_drew _) | exact Qt.bel (qt_of _ _) | refine Bl.call ?_ (by assumption) | refine Bl.qt ?_ (qt_drew _) | refine Bl.qt ?_ (qt_of _ _)))
        exact ⟨HR.out.1.below hb (by rw [HR.out.2]; omega), by rw [← HR.out.2]; exact hb.size⟩)
      have B2 : Hid (Below w.heap.size w w2) := hid (by repeat (first | exact B0.out | exact Below.refl _ _ | refine Below.setCell ?_ (by have h0 := B0.out.size; simp; omega) _ | refine Bl.new ?_ _ | refine Bl.call ?_ (by assumption) | refine Bl.qt ?_ (by assumption) | refine Bl.qt ?_ (qt_drew _) | refine Bl.qt ?_ (qt_of _ _)))
      clear g1 g2 b1 b2
      go_wp2_with fail
      refine (AC.out _ _ G2.out).mono ?_; rintro e w3 ⟨rfl, b3⟩
      have G13 := hid (G1.out.call b3)
      have G23 := hid (G2.out.call b3)
      have B3 := hid (Bl.call B2.out b3)
      have R3 : Hid (Blk w3 (K + 1) 86 [.pointer none] ∧ K + 2 ≤ w3.heap.size) := hid ⟨R2.out.1.below b3 (by have := R2.out.2; omega), Nat.le_trans R2.out.2 b3.size⟩
      clear b3
      obtain ⟨wc, hwc⟩ : ∃ wc, wc = w3.alloc (.cells #[.int .u64 x.1, .int .i64 x.2] 110) := ⟨_, rfl⟩
      have BC : Hid (Below w.heap.size w wc) := hid (by rw [hwc]; exact Bl.new B3.out _)
      have G1c : Hid (IsTr wc wc.heap.size v1 (split t (i : Int)).1) := hid (by rw [hwc]; exact G13.out.new _)
      have GO : Hid (IsTr wc wc.heap.size v2 o) := hid (by rw [hwc]; exact G23.out.new _)
      have RC : Hid (Blk wc (K + 1) 86 [.pointer none] ∧ K + 2 ≤ wc.heap.size) := hid (by rw [hwc]; exact ⟨R3.out.1.alloc _, by have := R3.out.2; simp; omega⟩)
      have WC := hid hwc
      have WS : Hid (w3.heap.size + 1 = wc.heap.size) := hid (by rw [hwc]; simp)
      clear hwc
      go_wp2_with fail
      rw [← WC.out, WS.out]
      obtain ⟨u1, hu1⟩ : ∃ u1, u1 = wc.alloc (.cells #[.int .u64 k, .int .i64 n] 110) := ⟨_, rfl⟩
      have U1 := hid hu1
      have y0 : u1.cell? ⟨wc.heap.size, 0, none⟩ = some (.int .u64 k) := by rw [hu1]; exact (Blk.new wc _ [.int .u64 k, .int .i64 n]).cell 0
      have y1 : u1.cell? ⟨wc.heap.size, 1, none⟩ = some (.int .i64 n) := by rw [hu1]; exact (Blk.new wc _ [.int .u64 k, .int .i64 n]).cell 1
      have OC := hid (of_one (x := (k, n)) y0 y1)
      have BU : Hid (Below w.heap.size w u1) := hid (by rw [hu1]; exact Bl.new BC.out _)
      have G1u : Hid (IsTr u1 u1.heap.size v1 (split t (i : Int)).1) := hid (by rw [hu1]; exact G1c.out.new _)
      have GOu : Hid (IsTr u1 u1.heap.size v2 o) := hid (by rw [hu1]; exact GO.out.new _)
      have RU : Hid (Blk u1 (K + 1) 86 [.pointer none] ∧ K + 2 ≤ u1.heap.size) := hid (by rw [hu1]; exact ⟨RC.out.1.alloc _, by have := RC.out.2; simp; omega⟩)
      clear hu1 y0 y1
      rw [← U1.out]
      refine OC.out.mono ?_; rintro e w5 ⟨v5, rfl, g5, b5⟩
      have G5 := hid g5
      have G15 := hid (G1u.out.call b5)
      have GO5 := hid (GOu.out.call b5)
      have B5 := hid (Bl.call BU.out b5)
      have R5 : Hid (Blk w5 (K + 1) 86 [.pointer none] ∧ K + 2 ≤ w5.heap.size) := hid ⟨RU.out.1.below b5 (by have := RU.out.2; omega), Nat.le_trans RU.out.2 b5.size⟩
      clear g5 b5
      go_wp2_with fail
      refine (join_any G5.out GO5.out (sz_single _) (by have := SZ.out; omega)).mono ?_; rintro e w6 ⟨v6, rfl, g6, b6⟩
      have G6 := hid g6
      have G16 := hid (G15.out.call b6)
      have B6 := hid (Bl.call B5.out b6)
      have R6 : Hid (Blk w6 (K + 1) 86 [.pointer none] ∧ K + 2 ≤ w6.heap.size) := hid ⟨R5.out.1.below b6 (by have := R5.out.2; omega), Nat.le_trans R5.out.2 b6.size⟩
      clear g6 b6
      go_wp2_with fail
      refine (join_any G16.out G6.out HZ1.out (by rw [sz_join]; have := SZ.out; simp only [sz]; omega)).mono ?_; rintro e w7 ⟨v7, rfl, g7, b7⟩
      have R7 : Blk w7 (K + 1) 86 [.pointer none] := R6.out.1.below b7 (by have := R6.out.2; omega)
      have z0 : w7.cell? ⟨K + 1, 0, none⟩ = some (.pointer none) := R7.cell 0
      have z1 : w7.frozen? ⟨K + 1, 0, none⟩ = false := R7.frozen 0
      have P7 := hid (R7.put 0 (.pointer v7))
      have B7 := hid (Bl.call B6.out b7)
      have G7 := hid g7
      have E1 : Hid (Below w7.heap.size w7 w7) := hid (Below.refl _ _)
      have BF : Hid (Below (K + 1) w7 (w7.setCell ⟨K + 1, 0, none⟩ (.pointer v7))) := hid ((Below.refl (K + 1) w7).setCell (p := ⟨K + 1, 0, none⟩) (Nat.le_refl _) _)
      have R7h := hid R7
      clear R7 g7 b7
      go_wp2_with fail
      have z2 := P7.out.cell 0
      have BE : Hid (Below w.heap.size w (w7.setCell ⟨K + 1, 0, none⟩ (.pointer v7))) := hid (B7.out.setCell (by rw [HK.out]; simp) _)
      have GE : Hid (IsTr (w7.setCell ⟨K + 1, 0, none⟩ (.pointer v7)) (w7.setCell ⟨K + 1, 0, none⟩ (.pointer v7)).heap.size v7 (join (split t (i : Int)).1 (join (.node .nil (k, n) .nil) o))) := hid (by have := G7.out.other R7h.out (.pointer v7); simpa [World.setCell] using this)
      generalize w7.setCell ⟨K + 1, 0, none⟩ (.pointer v7) = w8 at *
      exact bodyPost_ret (v := .agg #[.pointer v7]) (by simp [results, Try.results61, go_sem, z2]) rfl ⟨v7, rfl, ⟨_, GE.out, FIN.out.1, FIN.out.2, HP.out⟩, BE.out⟩
  · have hi0 : i = sz t := by omega
    rw [List.getElem?_eq_none (by omega), Option.bind_none] at hat
    have AC : Hid (∀ (w : World) (v : Option Addr), IsTr w w.heap.size v o → Calls Try.prog 67 #[.pointer v, .int .i64 0] w (AtPost w (0, 0) false)) := hid (fun w v h => at_out h (.inr (by omega)))
    have SZ : Hid (sz o ≤ 100000) := hid (by omega)
    have HG := hid hat
    have FIN := hid (put_tree (n := n) HB.out HSR.out HI.out hb2 (by rw [hso, HG.out, if_pos rfl]))
    clear hat hso hb2 hl hlen hsz hge hsl hbal hsrt hput hi hz1 hw0 hK ht ho hsa hi0
    go_enter Try.func61, Try.ntmps61
    go_wp2_with fail
    rw [← HK.out, ← HW.out]
    go_region_held3 (fun w' => w'.cell? ⟨K, 0, none⟩ = some (.pointer pt))
      (first | go_keep | (go_split_ands; and_intros <;> (first | (refine cell_later (by assumption) ?_; first | assumption | (rw [Qt.cell (qt_of _ _)]; assumption) | (rw [Qt.cell (qt_drew _)]; assumption)) | (refine cell_later (bel_new _ _) ?_; assumption))) | (refine cell_later (by assumption) ?_; first | assumption | (rw [Qt.cell (qt_of _ _)]; assumption) | (rw [Qt.cell (qt_drew _)]; assumption)) | (refine cell_later (bel_new _ _) ?_; assumption))
      (first | (go_at_call 68; (with_reducible refine (FC.out _ (by repeat (first | exact HT.out | refine IsTr.new ?_ _ | refine IsTr.cqt ?_ (qt_drew _) | refine IsTr.cqt ?_ (qt_of _ _) | refine IsTr.call ?_ (by assumption) | refine IsTr.cqt ?_ (by assumption)))).mono ?_); rintro e w1 ⟨rfl, b1⟩)
             | (go_at_call 69; (with_reducible refine (SC.out _ (by repeat (first | exact HT.out | refine IsTr.new ?_ _ | refine IsTr.cqt ?_ (qt_drew _) | refine IsTr.cqt ?_ (qt_of _ _) | refine IsTr.call ?_ (by assumption) | refine IsTr.cqt ?_ (by assumption)))).mono ?_); rintro e w2 ⟨v1, v2, rfl, g1, g2, b2⟩))
    have G1 := hid g1
    have G2 : Hid (IsTr w2 w2.heap.size v2 o) := hid (by rw [HO.out]; exact g2)
    have R2 : Hid (Blk w2 (K + 1) 86 [.pointer none] ∧ K + 2 ≤ w2.heap.size) := hid (by
      have hb : Below w0.heap.size w0 w2 := (by repeat (first | exact Below.refl _ _ | exact Qt.bel (qt_drew _) | exact Qt.bel (qt_of _ _) | refine Bl.call ?_ (by assumption) | refine Bl.qt ?_ (qt_drew _) | refine Bl.qt ?_ (qt_of _ _)))
      exact ⟨HR.out.1.below hb (by rw [HR.out.2]; omega), by rw [← HR.out.2]; exact hb.size⟩)
    have B2 : Hid (Below w.heap.size w w2) := hid (by repeat (first | exact B0.out | exact Below.refl _ _ | refine Below.setCell ?_ (by have h0 := B0.out.size; simp; omega) _ | refine Bl.new ?_ _ | refine Bl.call ?_ (by assumption) | refine Bl.qt ?_ (by assumption) | refine Bl.qt ?_ (qt_drew _) | refine Bl.qt ?_ (qt_of _ _)))
    clear g1 g2 b1 b2
    go_wp2_with fail
    refine (AC.out _ _ G2.out).mono ?_; rintro e w3 ⟨rfl, b3⟩
    have G13 := hid (G1.out.call b3)
    have G23 := hid (G2.out.call b3)
    have B3 := hid (Bl.call B2.out b3)
    have R3 : Hid (Blk w3 (K + 1) 86 [.pointer none] ∧ K + 2 ≤ w3.heap.size) := hid ⟨R2.out.1.below b3 (by have := R2.out.2; omega), Nat.le_trans R2.out.2 b3.size⟩
    clear b3
    obtain ⟨wc, hwc⟩ : ∃ wc, wc = w3.alloc (.cells #[.int .u64 0, .int .i64 0] 110) := ⟨_, rfl⟩
    have BC : Hid (Below w.heap.size w wc) := hid (by rw [hwc]; exact Bl.new B3.out _)
    have G1c : Hid (IsTr wc wc.heap.size v1 (split t (i : Int)).1) := hid (by rw [hwc]; exact G13.out.new _)
    have GO : Hid (IsTr wc wc.heap.size v2 o) := hid (by rw [hwc]; exact G23.out.new _)
    have RC : Hid (Blk wc (K + 1) 86 [.pointer none] ∧ K + 2 ≤ wc.heap.size) := hid (by rw [hwc]; exact ⟨R3.out.1.alloc _, by have := R3.out.2; simp; omega⟩)
    have WC := hid hwc
    have WS : Hid (w3.heap.size + 1 = wc.heap.size) := hid (by rw [hwc]; simp)
    clear hwc
    go_wp2_with fail
    rw [← WC.out, WS.out]
    obtain ⟨u1, hu1⟩ : ∃ u1, u1 = wc.alloc (.cells #[.int .u64 k, .int .i64 n] 110) := ⟨_, rfl⟩
    have U1 := hid hu1
    have y0 : u1.cell? ⟨wc.heap.size, 0, none⟩ = some (.int .u64 k) := by rw [hu1]; exact (Blk.new wc _ [.int .u64 k, .int .i64 n]).cell 0
    have y1 : u1.cell? ⟨wc.heap.size, 1, none⟩ = some (.int .i64 n) := by rw [hu1]; exact (Blk.new wc _ [.int .u64 k, .int .i64 n]).cell 1
    have OC := hid (of_one (x := (k, n)) y0 y1)
    have BU : Hid (Below w.heap.size w u1) := hid (by rw [hu1]; exact Bl.new BC.out _)
    have G1u : Hid (IsTr u1 u1.heap.size v1 (split t (i : Int)).1) := hid (by rw [hu1]; exact G1c.out.new _)
    have GOu : Hid (IsTr u1 u1.heap.size v2 o) := hid (by rw [hu1]; exact GO.out.new _)
    have RU : Hid (Blk u1 (K + 1) 86 [.pointer none] ∧ K + 2 ≤ u1.heap.size) := hid (by rw [hu1]; exact ⟨RC.out.1.alloc _, by have := RC.out.2; simp; omega⟩)
    clear hu1 y0 y1
    rw [← U1.out]
    refine OC.out.mono ?_; rintro e w5 ⟨v5, rfl, g5, b5⟩
    have G5 := hid g5
    have G15 := hid (G1u.out.call b5)
    have GO5 := hid (GOu.out.call b5)
    have B5 := hid (Bl.call BU.out b5)
    have R5 : Hid (Blk w5 (K + 1) 86 [.pointer none] ∧ K + 2 ≤ w5.heap.size) := hid ⟨RU.out.1.below b5 (by have := RU.out.2; omega), Nat.le_trans RU.out.2 b5.size⟩
    clear g5 b5
    go_wp2_with fail
    refine (join_any G5.out GO5.out (sz_single _) (by have := SZ.out; omega)).mono ?_; rintro e w6 ⟨v6, rfl, g6, b6⟩
    have G6 := hid g6
    have G16 := hid (G15.out.call b6)
    have B6 := hid (Bl.call B5.out b6)
    have R6 : Hid (Blk w6 (K + 1) 86 [.pointer none] ∧ K + 2 ≤ w6.heap.size) := hid ⟨R5.out.1.below b6 (by have := R5.out.2; omega), Nat.le_trans R5.out.2 b6.size⟩
    clear g6 b6
    go_wp2_with fail
    refine (join_any G16.out G6.out HZ1.out (by rw [sz_join]; have := SZ.out; simp only [sz]; omega)).mono ?_; rintro e w7 ⟨v7, rfl, g7, b7⟩
    have R7 : Blk w7 (K + 1) 86 [.pointer none] := R6.out.1.below b7 (by have := R6.out.2; omega)
    have z0 : w7.cell? ⟨K + 1, 0, none⟩ = some (.pointer none) := R7.cell 0
    have z1 : w7.frozen? ⟨K + 1, 0, none⟩ = false := R7.frozen 0
    have P7 := hid (R7.put 0 (.pointer v7))
    have B7 := hid (Bl.call B6.out b7)
    have G7 := hid g7
    have E1 : Hid (Below w7.heap.size w7 w7) := hid (Below.refl _ _)
    have BF : Hid (Below (K + 1) w7 (w7.setCell ⟨K + 1, 0, none⟩ (.pointer v7))) := hid ((Below.refl (K + 1) w7).setCell (p := ⟨K + 1, 0, none⟩) (Nat.le_refl _) _)
    have R7h := hid R7
    clear R7 g7 b7
    go_wp2_with fail
    have z2 := P7.out.cell 0
    have BE : Hid (Below w.heap.size w (w7.setCell ⟨K + 1, 0, none⟩ (.pointer v7))) := hid (B7.out.setCell (by rw [HK.out]; simp) _)
    have GE : Hid (IsTr (w7.setCell ⟨K + 1, 0, none⟩ (.pointer v7)) (w7.setCell ⟨K + 1, 0, none⟩ (.pointer v7)).heap.size v7 (join (split t (i : Int)).1 (join (.node .nil (k, n) .nil) o))) := hid (by have := G7.out.other R7h.out (.pointer v7); simpa [World.setCell] using this)
    generalize w7.setCell ⟨K + 1, 0, none⟩ (.pointer v7) = w8 at *
    exact bodyPost_ret (v := .agg #[.pointer v7]) (by simp [results, Try.results61, go_sem, z2]) rfl ⟨v7, rfl, ⟨_, GE.out, FIN.out.1, FIN.out.2, HP.out⟩, BE.out⟩
end Go.Proofs.Ytbafbnkmmpaomaa
