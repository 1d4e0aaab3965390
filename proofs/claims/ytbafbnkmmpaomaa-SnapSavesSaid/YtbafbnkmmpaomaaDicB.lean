/- Contracts of dict.Get, dict.Pairs, dict.Many, dict.Height. -/
import Derived.Test.YtbafbnkmmpaomaaDicA
import Derived.Test.YtbafbnkmmpaomaaMgA
namespace Go.Proofs.Ytbafbnkmmpaomaa
open Go.RowKit Sq
set_option linter.unusedVariables false
attribute [local go_sem ↓] Go.wp_at_zero Go.wp_at_succ

theorem bcell {W w1 : World} (hb : Below W.heap.size W w1) : (∀ b o, b < W.heap.size → w1.cell? ⟨b, o, none⟩ = W.cell? ⟨b, o, none⟩) ∧ (∀ b o, b < W.heap.size → w1.frozen? ⟨b, o, none⟩ = W.frozen? ⟨b, o, none⟩) :=
  ⟨fun b o h => hb.cell (p := ⟨b, o, none⟩) h, fun b o h => hb.frozen (p := ⟨b, o, none⟩) h⟩
theorem alloc_swap {w : World} {o : Obj} (o' : Obj) {K i : Nat} {u : Value} (nk : w.heap.size ≠ K) (h : (w.alloc o).cell? ⟨K, i, none⟩ = some u) : (w.alloc o').cell? ⟨K, i, none⟩ = some u := by
  have h1 := cell_lt h
  have h2 : K < w.heap.size := by simp at h1; omega
  rw [(bel_new w o).cell (p := ⟨K, i, none⟩) h2] at h
  exact cell_later (bel_new w o') h
/-- The pointer of a dictionary leads to these pairs. -/
def IsD (w : World) (pt : Option Addr) (l : List (Int × Int)) : Prop := ∃ t, IsTr w w.heap.size pt t ∧ Bal t ∧ ls t = l ∧ Dc.Srt l
theorem IsD.call {w a : World} {v : Option Addr} {l : List (Int × Int)} (h : IsD w v l) (hb : Below w.heap.size w a) : IsD a v l := by
  obtain ⟨t, h1, h2, h3, h4⟩ := h
  exact ⟨t, h1.call hb, h2, h3, h4⟩
theorem IsD.cqt {w a : World} {v : Option Addr} {l : List (Int × Int)} (h : IsD w v l) (hq : Qt w a) : IsD a v l := h.call hq.bel
theorem IsD.new {w : World} {v : Option Addr} {l : List (Int × Int)} (h : IsD w v l) (o : Obj) : IsD (w.alloc o) v l := h.call (bel_new w o)
theorem IsD.none_ (w : World) : IsD w none [] := ⟨.nil, rfl, trivial, rfl, List.Pairwise.nil⟩

def GetPost (w : World) (r : Option Int) (e : Ending) (w' : World) : Prop := e = .returned (.tuple #[.int .i64 (r.getD 0), .bool r.isSome]) ∧ Below w.heap.size w w'
set_option maxRecDepth 100000 in
set_option maxHeartbeats 4000000 in
theorem get_any {pt : Option Addr} {l : List (Int × Int)} {k : Int} {w : World} (h : IsD w pt l) (hl : l.length ≤ 100000) :
    Calls Try.prog 60 #[.agg #[.pointer pt], .int .u64 k] w (GetPost w (Dc.get l k)) := by
  obtain ⟨t, ht, -, hls, hsrt⟩ := h
  have hsz : sz t ≤ 100000 := by rw [← len_ls, hls]; exact hl
  have hlen : (ls t).length = sz t := len_ls t
  have hat := Dc.at_less hsrt k
  obtain ⟨K, hK⟩ : ∃ K, K = w.heap.size := ⟨_, rfl⟩
  obtain ⟨w0, hw0⟩ : ∃ w0, w0 = w.alloc (.cells #[.pointer pt] 86) := ⟨_, rfl⟩
  have B0 : Hid (Below w.heap.size w w0) := hid (by rw [hw0]; exact bel_new w _)
  have x0 : w0.cell? ⟨K, 0, none⟩ = some (.pointer pt) := by rw [hw0, hK]; exact (Blk.new w _ [.pointer pt]).cell 0
  have HT : Hid (IsTr w0 w0.heap.size pt t) := hid (ht.box hw0)
  have HW := hid hw0
  have HK := hid hK
  subst hls
  have HS := hid hsrt
  obtain ⟨i, hi⟩ : ∃ i, i = Dc.less (ls t) k := ⟨_, rfl⟩
  have hile : i ≤ sz t := by rw [hi, ← len_ls]; exact Dc.less_le _ _
  have FC : Hid (∀ w : World, IsTr w w.heap.size pt t → Calls Try.prog 68 #[.agg #[.pointer pt], .int .u64 k] w (SearchPost w i)) := hid (fun w h => by rw [hi]; exact from_any h (by omega) hsrt)
  rw [← hi] at hat
  clear hK hw0 hi ht hsrt
  rcases Nat.lt_or_ge i (sz t) with hlt | hge
  · have hlt' : i < (ls t).length := by rw [hlen]; exact hlt
    rw [List.getElem?_eq_getElem hlt', Option.bind_some] at hat
    obtain ⟨x, hx⟩ : ∃ x, x = (ls t)[i] := ⟨_, rfl⟩
    rw [← hx] at hat
    have AC : Hid (∀ w : World, IsTr w w.heap.size pt t → Calls Try.prog 67 #[.pointer pt, .int .i64 (i : Int)] w (AtPost w x true)) := hid (fun w h => by
      have := at_in h hlt (by omega)
      rw [atT_ls, List.getElem?_eq_getElem hlt', Option.getD_some, ← hx] at this
      exact this)
    clear hx hl hlen hsz hlt
    by_cases hk : x.1 = k
    · have hne : (x.1 != k) = false := by simp [hk]
      have HF : Hid (Dc.get (ls t) k = some x.2) := hid (by rw [hat, if_pos hk])
      clear hk hat
      go_enter Try.func60, Try.ntmps60
      go_wp2_with fail
      rw [← HK.out, ← HW.out]
      have nk0 : w0.heap.size ≠ K := World.new_ne w0 ⟨K, 0, none⟩ (u := .pointer pt) x0
      go_region_held3 (fun w' => w'.cell? ⟨K, 0, none⟩ = some (.pointer pt))
        (first | (exact alloc_swap _ nk2 (by assumption)) | (first | go_keep | (go_split_ands; and_intros <;> (first | (refine cell_later (by assumption) ?_; first | assumption | (rw [Qt.cell (qt_of _ _)]; assumption) | (rw [Qt.cell (qt_drew _)]; assumption)) | (refine cell_later (bel_new _ _) ?_; assumption))) | (refine cell_later (by assumption) ?_; first | assumption | (rw [Qt.cell (qt_of _ _)]; assumption) | (rw [Qt.cell (qt_drew _)]; assumption)) | (refine cell_later (bel_new _ _) ?_; assumption)))
        (first | (go_at_call 68; (with_reducible refine (FC.out _ (by repeat (first | exact HT.out | refine IsTr.new ?_ _ | refine IsTr.cqt ?_ (qt_drew _) | refine IsTr.cqt ?_ (qt_of _ _) | refine IsTr.call ?_ (by assumption) | refine IsTr.cqt ?_ (by assumption)))).mono ?_); rintro e w1 ⟨rfl, b1⟩; obtain ⟨hc1, hf1⟩ := bcell b1; have hz1 := b1.size; (try simp at hz1); (try (have hz1' : w0.heap.size < w1.heap.size := by omega)); have nk1 : w1.heap.size ≠ K := World.new_ne w1 ⟨K, 0, none⟩ (u := .pointer pt) (cell_later b1 (by assumption)))
               | (go_at_call 67; (with_reducible refine (AC.out _ (by repeat (first | exact HT.out | refine IsTr.new ?_ _ | refine IsTr.cqt ?_ (qt_drew _) | refine IsTr.cqt ?_ (qt_of _ _) | refine IsTr.call ?_ (by assumption) | refine IsTr.cqt ?_ (by assumption)))).mono ?_); rintro e w2 ⟨rfl, b2⟩; obtain ⟨hc2, hf2⟩ := bcell b2; have hz2 := b2.size; (try simp at hz2); (try (have hz2' : w1.heap.size < w2.heap.size := by omega)); have nk2 : w2.heap.size ≠ K := World.new_ne w2 ⟨K, 0, none⟩ (u := .pointer pt) (cell_later b2 (by assumption))))
      all_goals
        go_wp2
        go_ret2
        exact ⟨by rw [HF.out]; rfl, (by repeat (first | exact B0.out | exact Below.refl _ _ | refine Below.setCell ?_ (by have h0 := B0.out.size; simp; omega) _ | refine Bl.new ?_ _ | refine Bl.call ?_ (by assumption) | refine Bl.qt ?_ (by assumption) | refine Bl.qt ?_ (qt_drew _) | refine Bl.qt ?_ (qt_of _ _)))⟩
    · have hne : (x.1 != k) = true := by simp [hk]
      have HF : Hid (Dc.get (ls t) k = none) := hid (by rw [hat, if_neg hk])
      clear hk hat
      go_enter Try.func60, Try.ntmps60
      go_wp2_with fail
      rw [← HK.out, ← HW.out]
      have nk0 : w0.heap.size ≠ K := World.new_ne w0 ⟨K, 0, none⟩ (u := .pointer pt) x0
      go_region_held3 (fun w' => w'.cell? ⟨K, 0, none⟩ = some (.pointer pt))
        (first | (exact alloc_swap _ nk2 (by assumption)) | (first | go_keep | (go_split_ands; and_intros <;> (first | (refine cell_later (by assumption) ?_; first | assumption | (rw [Qt.cell (qt_of _ _)]; assumption) | (rw [Qt.cell (qt_drew _)]; assumption)) | (refine cell_later (bel_new _ _) ?_; assumption))) | (refine cell_later (by assumption) ?_; first | assumption | (rw [Qt.cell (qt_of _ _)]; assumption) | (rw [Qt.cell (qt_drew _)]; assumption)) | (refine cell_later (bel_new _ _) ?_; assumption)))
        (first | (go_at_call 68; (with_reducible refine (FC.out _ (by repeat (first | exact HT.out | refine IsTr.new ?_ _ | refine IsTr.cqt ?_ (qt_drew _) | refine IsTr.cqt ?_ (qt_of _ _) | refine IsTr.call ?_ (by assumption) | refine IsTr.cqt ?_ (by assumption)))).mono ?_); rintro e w1 ⟨rfl, b1⟩; obtain ⟨hc1, hf1⟩ := bcell b1; have hz1 := b1.size; (try simp at hz1); (try (have hz1' : w0.heap.size < w1.heap.size := by omega)); have nk1 : w1.heap.size ≠ K := World.new_ne w1 ⟨K, 0, none⟩ (u := .pointer pt) (cell_later b1 (by assumption)))
               | (go_at_call 67; (with_reducible refine (AC.out _ (by repeat (first | exact HT.out | refine IsTr.new ?_ _ | refine IsTr.cqt ?_ (qt_drew _) | refine IsTr.cqt ?_ (qt_of _ _) | refine IsTr.call ?_ (by assumption) | refine IsTr.cqt ?_ (by assumption)))).mono ?_); rintro e w2 ⟨rfl, b2⟩; obtain ⟨hc2, hf2⟩ := bcell b2; have hz2 := b2.size; (try simp at hz2); (try (have hz2' : w1.heap.size < w2.heap.size := by omega)); have nk2 : w2.heap.size ≠ K := World.new_ne w2 ⟨K, 0, none⟩ (u := .pointer pt) (cell_later b2 (by assumption))))
      all_goals
        go_wp2
        go_ret2
        exact ⟨by rw [HF.out]; rfl, (by repeat (first | exact B0.out | exact Below.refl _ _ | refine Below.setCell ?_ (by have h0 := B0.out.size; simp; omega) _ | refine Bl.new ?_ _ | refine Bl.call ?_ (by assumption) | refine Bl.qt ?_ (by assumption) | refine Bl.qt ?_ (qt_drew _) | refine Bl.qt ?_ (qt_of _ _)))⟩
  · have hi0 : i = sz t := by omega
    rw [List.getElem?_eq_none (by omega), Option.bind_none] at hat
    have AC : Hid (∀ w : World, IsTr w w.heap.size pt t → Calls Try.prog 67 #[.pointer pt, .int .i64 (i : Int)] w (AtPost w (0, 0) false)) := hid (fun w h => at_out h (.inr (by omega)))
    have HF := hid hat
    clear hl hlen hsz hat hi0
    go_enter Try.func60, Try.ntmps60
    go_wp2_with fail
    rw [← HK.out, ← HW.out]
    have nk0 : w0.heap.size ≠ K := World.new_ne w0 ⟨K, 0, none⟩ (u := .pointer pt) x0
    go_region_held3 (fun w' => w'.cell? ⟨K, 0, none⟩ = some (.pointer pt))
      (first | (exact alloc_swap _ nk2 (by assumption)) | (first | go_keep | (go_split_ands; and_intros <;> (first | (refine cell_later (by assumption) ?_; first | assumption | (rw [Qt.cell (qt_of _ _)]; assumption) | (rw [Qt.cell (qt_drew _)]; assumption)) | (refine cell_later (bel_new _ _) ?_; assumption))) | (refine cell_later (by assumption) ?_; first | assumption | (rw [Qt.cell (qt_of _ _)]; assumption) | (rw [Qt.cell (qt_drew _)]; assumption)) | (refine cell_later (bel_new _ _) ?_; assumption)))
      (first | (go_at_call 68; (with_reducible refine (FC.out _ (by repeat (first | exact HT.out | refine IsTr.new ?_ _ | refine IsTr.cqt ?_ (qt_drew _) | refine IsTr.cqt ?_ (qt_of _ _) | refine IsTr.call ?_ (by assumption) | refine IsTr.cqt ?_ (by assumption)))).mono ?_); rintro e w1 ⟨rfl, b1⟩; obtain ⟨hc1, hf1⟩ := bcell b1; have hz1 := b1.size; (try simp at hz1); (try (have hz1' : w0.heap.size < w1.heap.size := by omega)); have nk1 : w1.heap.size ≠ K := World.new_ne w1 ⟨K, 0, none⟩ (u := .pointer pt) (cell_later b1 (by assumption)))
             | (go_at_call 67; (with_reducible refine (AC.out _ (by repeat (first | exact HT.out | refine IsTr.new ?_ _ | refine IsTr.cqt ?_ (qt_drew _) | refine IsTr.cqt ?_ (qt_of _ _) | refine IsTr.call ?_ (by assumption) | refine IsTr.cqt ?_ (by assumption)))).mono ?_); rintro e w2 ⟨rfl, b2⟩; obtain ⟨hc2, hf2⟩ := bcell b2; have hz2 := b2.size; (try simp at hz2); (try (have hz2' : w1.heap.size < w2.heap.size := by omega)); have nk2 : w2.heap.size ≠ K := World.new_ne w2 ⟨K, 0, none⟩ (u := .pointer pt) (cell_later b2 (by assumption))))
    all_goals
      go_wp2
      go_ret2
      exact ⟨by rw [HF.out]; rfl, (by repeat (first | exact B0.out | exact Below.refl _ _ | refine Below.setCell ?_ (by have h0 := B0.out.size; simp; omega) _ | refine Bl.new ?_ _ | refine Bl.call ?_ (by assumption) | refine Bl.qt ?_ (by assumption) | refine Bl.qt ?_ (qt_drew _) | refine Bl.qt ?_ (qt_of _ _)))⟩

end Go.Proofs.Ytbafbnkmmpaomaa
