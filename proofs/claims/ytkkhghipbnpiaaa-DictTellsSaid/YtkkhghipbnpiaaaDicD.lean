/- Contract of dict.Delete. -/
import Derived.Test.YtkkhghipbnpiaaaDicC
namespace Go.Proofs.Ytkkhghipbnpiaaa
open Go.RowKit Sq
set_option linter.unusedVariables false
attribute [local go_sem ↓] Go.wp_at_zero Go.wp_at_succ

def DelPost (w : World) (l : List (Int × Int)) (b : Bool) (e : Ending) (w' : World) : Prop := ∃ v, e = .returned (.tuple #[.agg #[.pointer v], .bool b]) ∧ IsD w' v l ∧ Below w.heap.size w w'
theorem IsD.of_tree {w : World} {v : Option Addr} {t : Tr (Int × Int)} {l : List (Int × Int)} (h : IsTr w w.heap.size v t) (hb : Bal t) (hl : ls t = l) (hs : Dc.Srt l) : IsD w v l := ⟨t, h, hb, hl, hs⟩
set_option maxRecDepth 100000 in
set_option maxHeartbeats 8000000 in
theorem delete_any {pt : Option Addr} {l : List (Int × Int)} {k : Int} {w : World} (h : IsD w pt l) (hl : l.length ≤ 100000) :
    Calls Try.prog 10 #[.agg #[.pointer pt], .int .u64 k] w (DelPost w (Dc.del l k) (Dc.get l k).isSome) := by
  have HD0 := h
  obtain ⟨t, ht, hbal, hls, hsrt⟩ := h
  have hl0 := hl
  subst hls
  have hsz : sz t ≤ 100000 := by rw [← len_ls]; exact hl
  have hlen : (ls t).length = sz t := len_ls t
  obtain ⟨K, hK⟩ : ∃ K, K = w.heap.size := ⟨_, rfl⟩
  obtain ⟨w0, hw0⟩ : ∃ w0, w0 = (w.alloc (.cells #[.pointer pt] 27)).alloc (.cells #[.pointer none] 27) := ⟨_, rfl⟩
  have B0 : Hid (Below w.heap.size w w0) := hid (by rw [hw0]; exact Bl.new (bel_new w _) _)
  have x0 : w0.cell? ⟨K, 0, none⟩ = some (.pointer pt) := by rw [hw0, hK]; exact ((Blk.new w _ [.pointer pt]).alloc _).cell 0
  have HR : Hid (Blk w0 (K + 1) 27 [.pointer none] ∧ w0.heap.size = K + 2) := hid (by
    have := Blk.new (w.alloc (.cells #[.pointer pt] 27)) 27 [.pointer none]
    rw [hw0, hK]; simpa using this)
  have HT : Hid (IsTr w0 w0.heap.size pt t) := hid (by rw [hw0]; exact (ht.new _).new _)
  have HDD : Hid (IsD w0 pt (ls t)) := hid (by rw [hw0]; exact (HD0.new _).new _)
  have HW := hid hw0
  have HK := hid hK
  have HB := hid hbal
  have HSR := hid hsrt
  have HL := hid hl0
  clear hK hw0 HD0 hl0
  cases hg : Dc.get (ls t) k with
  | none =>
    have HN : Hid (Dc.del (ls t) k = ls t) := hid (Dc.del_none hg)
    have HG := hid hg
    clear hg hsz hlen hl ht hbal hsrt
    go_enter Try.func10, Try.ntmps10
    go_wp2_with fail
    rw [← HK.out, ← HW.out]
    refine (get_any HDD.out HL.out).mono ?_; rintro e w1 ⟨rfl, b1⟩
    rw [HG.out]
    have y0 : w1.cell? ⟨K, 0, none⟩ = some (.pointer pt) := cell_later b1 x0
    have R1 : Blk w1 (K + 1) 27 [.pointer none] := HR.out.1.below b1 (by rw [HR.out.2]; omega)
    have z0 : w1.cell? ⟨K + 1, 0, none⟩ = some (.pointer none) := R1.cell 0
    have z1 : w1.frozen? ⟨K + 1, 0, none⟩ = false := R1.frozen 0
    have P1 := hid (R1.put 0 (.pointer pt))
    have B1 := hid (Bl.call B0.out b1)
    have G1 := hid (HT.out.call b1)
    have R1h := hid R1
    clear R1 b1
    go_wp2_with fail
    have z2 := P1.out.cell 0
    have BE : Hid (Below w.heap.size w (w1.setCell ⟨K + 1, 0, none⟩ (.pointer pt))) := hid (B1.out.setCell (by rw [HK.out]; simp) _)
    have GE : Hid (IsTr (w1.setCell ⟨K + 1, 0, none⟩ (.pointer pt)) (w1.setCell ⟨K + 1, 0, none⟩ (.pointer pt)).heap.size pt t) := hid (by have := G1.out.other R1h.out (.pointer pt); simpa [World.setCell] using this)
    generalize w1.setCell ⟨K + 1, 0, none⟩ (.pointer pt) = w8 at *
    exact bodyPost_ret (v := .tuple #[.agg #[.pointer pt], .bool false]) (by simp [results, Try.results10, go_sem, z2]) rfl ⟨pt, rfl, by rw [HN.out]; exact ⟨t, GE.out, HB.out, rfl, HSR.out⟩, BE.out⟩
  | some n =>
    have hdel := Dc.del_code hsrt k (by rw [hg]; simp)
    have hsd := Dc.srt_del hsrt k
    obtain ⟨i, hi⟩ : ∃ i, i = Dc.less (ls t) k := ⟨_, rfl⟩
    have hile : i ≤ sz t := by rw [hi, ← len_ls]; exact Dc.less_le _ _
    have FC : Hid (∀ w : World, IsTr w w.heap.size pt t → Calls Try.prog 19 #[.agg #[.pointer pt], .int .u64 k] w (SearchPost w i)) := hid (fun w h => by rw [hi]; exact from_any h (by omega) hsrt)
    have SC : Hid (∀ w : World, IsTr w w.heap.size pt t → Calls Try.prog 23 #[.pointer pt, .int .i64 (i : Int)] w (SpPost w t i)) := hid (fun w h => split_any h (by omega) (by omega))
    rw [← hi] at hdel
    have hz1 := (split_sz t (i : Int)).1
    have hz2 := (split_sz t (i : Int)).2
    have HZ1 : Hid (sz (split t (i : Int)).1 ≤ 1000000) := hid (by omega)
    have HZ2 : Hid (sz (split t (i : Int)).2 ≤ 1000000) := hid (by omega)
    have hz3 := (split_sz (split t (i : Int)).2 1).2
    have HZ3 : Hid (sz (split (split t (i : Int)).2 1).2 ≤ 1000000) := hid (by omega)
    have hbb : Bal (join (split t (i : Int)).1 (split (split t (i : Int)).2 1).2) := bal_join _ _ (bal_split t _ hbal).1 (bal_split _ _ (bal_split t _ hbal).2).2
    have hll : ls (join (split t (i : Int)).1 (split (split t (i : Int)).2 1).2) = Dc.del (ls t) k := by
      rw [ls_join, (ls_split t i).1, (ls_split _ 1).2, (ls_split t i).2, Int.toNat_natCast, ← hdel]; simp
    have FIN := hid (And.intro hbb (And.intro hll hsd))
    have HG := hid hg
    clear hg hsz hlen hl ht hbal hsrt hdel hsd hz1 hz2 hz3 hbb hll hi
    go_enter Try.func10, Try.ntmps10
    go_wp2_with fail
    rw [← HK.out, ← HW.out]
    refine (get_any HDD.out HL.out).mono ?_; rintro e w1 ⟨rfl, b1⟩
    rw [HG.out]
    have y0 : w1.cell? ⟨K, 0, none⟩ = some (.pointer pt) := cell_later b1 x0
    have R1 : Hid (Blk w1 (K + 1) 27 [.pointer none] ∧ K + 2 ≤ w1.heap.size) := hid ⟨HR.out.1.below b1 (by rw [HR.out.2]; omega), by rw [← HR.out.2]; exact b1.size⟩
    have B1 := hid (Bl.call B0.out b1)
    have G1 := hid (HT.out.call b1)
    clear b1 x0
    go_wp2_with fail
    go_region_held3 (fun w' => w'.cell? ⟨K, 0, none⟩ = some (.pointer pt))
      (first | go_keep | (go_split_ands; and_intros <;> (first | (refine cell_later (by assumption) ?_; first | assumption | (rw [Qt.cell (qt_of _ _)]; assumption) | (rw [Qt.cell (qt_drew _)]; assumption)) | (refine cell_later (bel_new _ _) ?_; assumption))) | (refine cell_later (by assumption) ?_; first | assumption | (rw [Qt.cell (qt_of _ _)]; assumption) | (rw [Qt.cell (qt_drew _)]; assumption)) | (refine cell_later (bel_new _ _) ?_; assumption))
      (first | (go_at_call 19; (with_reducible refine (FC.out _ (by repeat (first | exact G1.out | refine IsTr.new ?_ _ | refine IsTr.cqt ?_ (qt_drew _) | refine IsTr.cqt ?_ (qt_of _ _) | refine IsTr.call ?_ (by assumption) | refine IsTr.cqt ?_ (by assumption)))).mono ?_); rintro e w3 ⟨rfl, b3⟩)
             | (go_at_call 23; (with_reducible refine (SC.out _ (by repeat (first | exact G1.out | refine IsTr.new ?_ _ | refine IsTr.cqt ?_ (qt_drew _) | refine IsTr.cqt ?_ (qt_of _ _) | refine IsTr.call ?_ (by assumption) | refine IsTr.cqt ?_ (by assumption)))).mono ?_); rintro e w4 ⟨v1, v2, rfl, g1, g2, b4⟩))
    have hb : Hid (Below w1.heap.size w1 w4) := hid (by repeat (first | exact Below.refl _ _ | exact Qt.bel (qt_drew _) | exact Qt.bel (qt_of _ _) | refine Bl.call ?_ b4 | refine Bl.call ?_ b3 | refine Bl.qt ?_ (qt_drew _) | refine Bl.qt ?_ (qt_of _ _)))
    have R4 : Hid (Blk w4 (K + 1) 27 [.pointer none] ∧ K + 2 ≤ w4.heap.size) := hid ⟨R1.out.1.below hb.out (by have := R1.out.2; omega), Nat.le_trans R1.out.2 hb.out.size⟩
    have B4 := hid (Bl.call B1.out hb.out)
    have GA := hid g1
    have GB := hid g2
    clear g1 g2 b3 b4 hb
    go_wp2_with fail
    refine (split_any (i := 1) GB.out HZ2.out (by omega)).mono ?_; rintro e w5 ⟨va, vo, rfl, ga, gb, b5⟩
    have GC := hid gb
    have GA5 := hid (GA.out.call b5)
    have B5 := hid (Bl.call B4.out b5)
    have R5 : Hid (Blk w5 (K + 1) 27 [.pointer none] ∧ K + 2 ≤ w5.heap.size) := hid ⟨R4.out.1.below b5 (by have := R4.out.2; omega), Nat.le_trans R4.out.2 b5.size⟩
    clear ga gb b5
    go_wp2_with fail
    refine (join_any GA5.out GC.out HZ1.out HZ3.out).mono ?_; rintro e w7 ⟨v7, rfl, g7, b7⟩
    have R7 : Blk w7 (K + 1) 27 [.pointer none] := R5.out.1.below b7 (by have := R5.out.2; omega)
    have z0 : w7.cell? ⟨K + 1, 0, none⟩ = some (.pointer none) := R7.cell 0
    have z1 : w7.frozen? ⟨K + 1, 0, none⟩ = false := R7.frozen 0
    have P7 := hid (R7.put 0 (.pointer v7))
    have B7 := hid (Bl.call B5.out b7)
    have G7 := hid g7
    have R7h := hid R7
    clear R7 g7 b7
    go_wp2_with fail
    have z2 := P7.out.cell 0
    have BE : Hid (Below w.heap.size w (w7.setCell ⟨K + 1, 0, none⟩ (.pointer v7))) := hid (B7.out.setCell (by rw [HK.out]; simp) _)
    have GE : Hid (IsTr (w7.setCell ⟨K + 1, 0, none⟩ (.pointer v7)) (w7.setCell ⟨K + 1, 0, none⟩ (.pointer v7)).heap.size v7 (join (split t (i : Int)).1 (split (split t (i : Int)).2 1).2)) := hid (by have := G7.out.other R7h.out (.pointer v7); simpa [World.setCell] using this)
    generalize w7.setCell ⟨K + 1, 0, none⟩ (.pointer v7) = w8 at *
    exact bodyPost_ret (v := .tuple #[.agg #[.pointer v7], .bool true]) (by simp [results, Try.results10, go_sem, z2]) rfl ⟨v7, rfl, IsD.of_tree GE.out FIN.out.1 FIN.out.2.1 FIN.out.2.2, BE.out⟩
end Go.Proofs.Ytkkhghipbnpiaaa
