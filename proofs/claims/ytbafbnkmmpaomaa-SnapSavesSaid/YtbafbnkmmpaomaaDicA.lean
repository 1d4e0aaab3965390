/- Contracts of sort.Search in dict.From, and of dict.From. -/
import Derived.Test.YtbafbnkmmpaomaaMgPs
import Derived.Test.YtbafbnkmmpaomaaMgA
import Derived.Deep.LoopGhost
namespace Go.Proofs.Ytbafbnkmmpaomaa
open Go.RowKit Sq
set_option linter.unusedVariables false
attribute [local go_sem ↓] Go.wp_at_zero Go.wp_at_succ

theorem cell_lt {w : World} {a : Addr} {u : Value} (h : w.cell? a = some u) : a.block < w.heap.size := World.block_lt_of_cell? w _ h
set_option maxRecDepth 100000 in
theorem pred_any {ka kb : Nat} {pt : Option Addr} {t : Tr (Int × Int)} {k : Int} {i : Nat} {w : World} (h1 : w.cell? ⟨ka, 0, none⟩ = some (.pointer pt)) (h2 : w.cell? ⟨kb, 0, none⟩ = some (.int .u64 k)) (ht : IsTr w w.heap.size pt t)
    (hi : i < (ls t).length) (hs : sz t ≤ 1000000) (b : Bool) (hb : decide (k ≤ (ls t)[i].1) = b) :
    Calls Try.prog 75 #[.int .i64 i, .pointer (some ⟨ka, 0, none⟩), .pointer (some ⟨kb, 0, none⟩)] w fun e w' => e = .returned (.bool b) ∧ Below w.heap.size w w' := by
  obtain ⟨x, hx⟩ : ∃ x, x = (ls t)[i] := ⟨_, rfl⟩
  have HA := at_in ht (i := i) (by rw [← len_ls]; exact hi) (by omega)
  rw [atT_ls, List.getElem?_eq_getElem hi, Option.getD_some, ← hx] at HA
  have HA' := hid HA
  rw [← hx] at hb
  have HB := hid hb
  clear HA hx hb ht
  have hl := cell_lt h2
  go_enter Try.func75, Try.ntmps75
  go_wp2_with fail
  refine HA'.out.mono ?_; rintro e w1 ⟨rfl, b1⟩
  have c2 : w1.cell? ⟨kb, 0, none⟩ = some (.int .u64 k) := cell_later b1 h2
  have c3 : (w1.alloc (.cells #[.int .u64 x.1, .int .i64 x.2] 110)).cell? ⟨kb, 0, none⟩ = some (.int .u64 k) := cell_later (bel_new _ _) c2
  clear h1 h2 c2 hl
  go_wp2_with fail
  go_ret
  exact ⟨by rw [← HB.out]; rfl, Bl.new b1 _⟩

def SearchPost (w : World) (r : Nat) (e : Ending) (w' : World) : Prop := e = .returned (.int .i64 (r : Int)) ∧ Below w.heap.size w w'
set_option maxRecDepth 100000 in
theorem search_any {ka kb : Nat} {pt : Option Addr} {t : Tr (Int × Int)} {k : Int} {w : World} (h1 : w.cell? ⟨ka, 0, none⟩ = some (.pointer pt)) (h2 : w.cell? ⟨kb, 0, none⟩ = some (.int .u64 k)) (ht : IsTr w w.heap.size pt t) (hs : sz t ≤ 1000000) (hsrt : Dc.Srt (ls t)) :
    Calls Try.prog 74 #[.int .i64 (sz t : Nat), .func (Fn.func 75) #[] #[.pointer (some ⟨ka, 0, none⟩), .pointer (some ⟨kb, 0, none⟩)]] w (SearchPost w (Dc.less (ls t) k)) := by
  obtain ⟨n, hn⟩ : ∃ n, n = sz t := ⟨_, rfl⟩
  obtain ⟨r, hr⟩ : ∃ r, r = Dc.less (ls t) k := ⟨_, rfl⟩
  have hrn : r ≤ n := by rw [hr, hn, ← len_ls]; exact Dc.less_le _ _
  have HN := hid hn
  have HR := hid hr
  have HT := hid ht
  have HS := hid hs
  have HP := hid hsrt
  have hn1 : n ≤ 1000000 := by rw [hn]; exact hs
  rw [← hn, ← hr]
  have H1 := hid h1
  have H2 := hid h2
  clear hn hr ht hs hsrt h1 h2
  go_enter Try.func74, Try.ntmps74
  go_wp2_with fail
  go_loopw [5, 6, 7] (fun i5 j5 _ wr => ∃ i j : Nat, i5 = .int .i64 (i : Int) ∧ j5 = .int .i64 (j : Int) ∧ i ≤ r ∧ r ≤ j ∧ j ≤ n ∧ Hid (wr.cell? ⟨ka, 0, none⟩ = some (.pointer pt)) ∧ Hid (wr.cell? ⟨kb, 0, none⟩ = some (.int .u64 k)) ∧ Hid (IsTr wr wr.heap.size pt t) ∧ Hid (Below w.heap.size w wr)) (fun i5 j5 _ _ => (intOf j5 - intOf i5).toNat)
  case atStart => exact ⟨0, n, rfl, rfl, Nat.zero_le _, hrn, Nat.le_refl _, H1, H2, HT, hid (Below.refl _ _)⟩
  case round =>
    clear H1 H2 HT
    obtain ⟨i, j, rfl, rfl, hi, hj, hjn, H1, H2, HT, HB⟩ := hrel
    by_cases hlt : i < j
    · obtain ⟨h, hh⟩ : ∃ h, h = (i + j) / 2 := ⟨_, rfl⟩
      have e0 : ((i : Int) + (j : Int)) / 2 = (h : Int) := by omega
      have b0 : i ≤ h := by omega
      have b1 : h < j := by omega
      have hlen : h < (ls t).length := by rw [len_ls, ← HN.out]; omega
      have E0 := hid e0
      have i0 : (i : Int) < (j : Int) := by omega
      have hiff := Dc.less_iff HP.out k h hlen
      rw [← HR.out] at hiff
      clear hh e0
      by_cases hc : r ≤ h
      · have hb : decide (k ≤ (ls t)[h].1) = true := decide_eq_true (hiff.2 hc)
        have PC := hid (pred_any H1.out H2.out HT.out hlen HS.out true hb)
        clear hb hiff
        go_wp2_with fail
        rw [E0.out]
        refine PC.out.mono ?_; rintro e w2 ⟨rfl, b2⟩
        have C1 := hid (cell_later b2 H1.out)
        have C2 := hid (cell_later b2 H2.out)
        have T2 := hid (HT.out.call b2)
        have B2 := hid (Bl.call HB.out b2)
        clear b2
        go_wp2_with fail
        go_roundw
        case rel => exact ⟨i, h, rfl, rfl, hi, hc, by omega, C1, C2, T2, B2⟩
        case measure => simp [intOf]; omega
      · have hb : decide (k ≤ (ls t)[h].1) = false := decide_eq_false (fun x => hc (hiff.1 x))
        have PC := hid (pred_any H1.out H2.out HT.out hlen HS.out false hb)
        clear hb hiff
        go_wp2_with fail
        rw [E0.out]
        refine PC.out.mono ?_; rintro e w2 ⟨rfl, b2⟩
        have C1 := hid (cell_later b2 H1.out)
        have C2 := hid (cell_later b2 H2.out)
        have T2 := hid (HT.out.call b2)
        have B2 := hid (Bl.call HB.out b2)
        clear b2
        go_wp2_with fail
        go_roundw
        case rel => exact ⟨h + 1, j, by go_num, rfl, by omega, hj, by omega, C1, C2, T2, B2⟩
        case measure => simp [intOf]; omega
    · have i0 : ¬ (i : Int) < (j : Int) := by omega
      have HF : Hid (i = r) := hid (by omega)
      go_wp2
      go_ret
      exact ⟨by rw [HF.out]; rfl, HB.out⟩
set_option maxRecDepth 100000 in
theorem from_any {pt : Option Addr} {t : Tr (Int × Int)} {k : Int} {w : World} (ht : IsTr w w.heap.size pt t) (hs : sz t ≤ 1000000) (hsrt : Dc.Srt (ls t)) :
    Calls Try.prog 68 #[.agg #[.pointer pt], .int .u64 k] w (SearchPost w (Dc.less (ls t) k)) := by
  have HT := hid ((ht.new (.cells #[.pointer pt] 86)).new (.cells #[.int .u64 k] 41))
  have HC : Hid (((w.alloc (.cells #[.pointer pt] 86)).alloc (.cells #[.int .u64 k] 41)).cell? ⟨w.heap.size, 0, none⟩ = some (.pointer pt) ∧ ((w.alloc (.cells #[.pointer pt] 86)).alloc (.cells #[.int .u64 k] 41)).cell? ⟨w.heap.size + 1, 0, none⟩ = some (.int .u64 k)) := hid
    ⟨((Blk.new w 86 [.pointer pt]).alloc _).cell 0, by simp⟩
  clear ht
  go_enter Try.func68, Try.ntmps68
  go_wp2_with fail
  refine (len_any HT.out).mono ?_; rintro e w' ⟨rfl, rfl⟩
  go_wp2_with fail
  refine (search_any HC.out.1 HC.out.2 HT.out hs hsrt).mono ?_; rintro e w1 ⟨rfl, b1⟩
  go_wp2
  go_ret
  exact ⟨rfl, Bl.call (Bl.new (bel_new w _) _) b1⟩
end Go.Proofs.Ytbafbnkmmpaomaa
