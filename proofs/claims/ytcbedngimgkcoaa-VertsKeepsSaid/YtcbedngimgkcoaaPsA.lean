/- Sequences of pairs in memory; contracts of seq.Len, seq.Height, seq.tree. -/
import Derived.Test.YtcbedngimgkcoaaSeqPlain
import Derived.Test.YtcbedngimgkcoaaBase
import Derived.Deep.RegionHeld3
import Derived.Deep.DrawnRows
namespace Go.Proofs.Ytcbedngimgkcoaa
open Go.RowKit Sq
set_option linter.unusedVariables false
attribute [local go_sem ↓] Go.wp_at_zero Go.wp_at_succ

theorem qt_of (w : World) (n : Nat) : Qt w (w.drewN n) := ⟨n, rfl⟩
theorem qt_drew (w : World) : Qt w w.drew := ⟨1, rfl⟩
/-- The pointer v leads to the sequence t, whose blocks are below B. -/
def IsTr (w : World) (B : Nat) : Option Addr → Tr (Int × Int) → Prop
  | v, .nil => v = none
  | v, .node a x b => ∃ k va vb, v = some ⟨k, 0, none⟩ ∧ k < B ∧ w.cell? ⟨k, 0, none⟩ = some (.pointer va) ∧ w.cell? ⟨k, 1, none⟩ = some (.pointer vb) ∧ w.cell? ⟨k, 2, none⟩ = some (.int .u64 x.1) ∧ w.cell? ⟨k, 3, none⟩ = some (.int .i64 x.2) ∧
      w.cell? ⟨k, 4, none⟩ = some (.int .i64 (ht (.node a x b) : Nat)) ∧ w.cell? ⟨k, 5, none⟩ = some (.int .i64 (sz (.node a x b) : Nat)) ∧ IsTr w B va a ∧ IsTr w B vb b
theorem IsTr.keep {w w' : World} {B B' : Nat} {v : Option Addr} {t : Tr (Int × Int)} (h : IsTr w B v t) (hB : B ≤ B') (hk : ∀ b o, b < B → w'.cell? ⟨b, o, none⟩ = w.cell? ⟨b, o, none⟩) : IsTr w' B' v t := by
  induction t generalizing v with
  | nil => exact h
  | node a x b iha ihb =>
    obtain ⟨k, va, vb, hv, hlt, h0, h1, h2, h2', h3, h4, ha, hb⟩ := h
    exact ⟨k, va, vb, hv, by omega, (hk k 0 hlt).trans h0, (hk k 1 hlt).trans h1, (hk k 2 hlt).trans h2, (hk k 3 hlt).trans h2', (hk k 4 hlt).trans h3, (hk k 5 hlt).trans h4, iha ha, ihb hb⟩
theorem IsTr.call {w a : World} {v : Option Addr} {t : Tr (Int × Int)} (h : IsTr w w.heap.size v t) (hb : Below w.heap.size w a) : IsTr a a.heap.size v t :=
  h.keep hb.size fun b o hlt => hb.cell (p := ⟨b, o, none⟩) hlt
theorem IsTr.cqt {w a : World} {v : Option Addr} {t : Tr (Int × Int)} (h : IsTr w w.heap.size v t) (hq : Qt w a) : IsTr a a.heap.size v t := h.call hq.bel
theorem IsTr.new {w : World} {v : Option Addr} {t : Tr (Int × Int)} (h : IsTr w w.heap.size v t) (o : Obj) : IsTr (w.alloc o) (w.alloc o).heap.size v t := h.call (bel_new w o)
theorem IsTr.none_ (w : World) (B : Nat) : IsTr w B none .nil := rfl

theorem len_any {v : Option Addr} {t : Tr (Int × Int)} {B : Nat} {w : World} (h : IsTr w B v t) :
    Calls Try.prog 39 #[.pointer v] w fun e w' => e = .returned (.int .i64 (sz t : Nat)) ∧ w = w' := by
  cases t with
  | nil =>
    obtain rfl : v = none := h
    go_enter Try.func39, Try.ntmps39
    go_wp2
    go_ret
    exact ⟨rfl, rfl⟩
  | node a x b =>
    obtain ⟨k, va, vb, rfl, hlt, h0, h1, h2, h2', h3, h4, ha, hb⟩ := h
    clear h0 h1 h2 h2' h3 ha hb
    generalize sz (.node a x b) = n at *
    go_enter Try.func39, Try.ntmps39
    go_wp2
    go_ret
    exact ⟨rfl, rfl⟩
theorem height_any {v : Option Addr} {t : Tr (Int × Int)} {B : Nat} {w : World} (h : IsTr w B v t) :
    Calls Try.prog 45 #[.pointer v] w fun e w' => e = .returned (.int .i64 (ht t : Nat)) ∧ w = w' := by
  cases t with
  | nil =>
    obtain rfl : v = none := h
    go_enter Try.func45, Try.ntmps45
    go_wp2
    go_ret
    exact ⟨rfl, rfl⟩
  | node a x b =>
    obtain ⟨k, va, vb, rfl, hlt, h0, h1, h2, h2', h3, h4, ha, hb⟩ := h
    clear h0 h1 h2 h2' h4 ha hb
    generalize ht (.node a x b) = n at *
    go_enter Try.func45, Try.ntmps45
    go_wp2
    go_ret
    exact ⟨rfl, rfl⟩
/-- A sequence that a call answers, and what it leaves as it was. -/
def TrPost (w : World) (t : Tr (Int × Int)) (e : Ending) (w' : World) : Prop := ∃ v, e = .returned (.pointer v) ∧ IsTr w' w'.heap.size v t ∧ Below w.heap.size w w'
theorem tree_new {va vb : Option Addr} {a b : Tr (Int × Int)} {x : Int × Int} {w0 w : World} (h s : Int) (e' : TypeId) (cs : Array Value) (w' : World) (h0 : Below w0.heap.size w0 w) (hw : Qt (w.alloc (.cells cs e')) w') (ha : IsTr w w.heap.size va a) (hb : IsTr w w.heap.size vb b)
    (hh : h = (ht (.node a x b) : Nat)) (hs : s = (sz (.node a x b) : Nat)) (hcs : cs = #[.pointer va, .pointer vb, .int .u64 x.1, .int .i64 x.2, .int .i64 h, .int .i64 s]) : TrPost w0 (.node a x b) (.returned (.pointer (some ⟨w.heap.size, 0, none⟩))) w' := by
  subst hcs hh hs
  have hB := Blk.new w e' [.pointer va, .pointer vb, .int .u64 x.1, .int .i64 x.2, .int .i64 (ht (.node a x b) : Nat), .int .i64 (sz (.node a x b) : Nat)]
  have hT : IsTr (w.alloc (.cells #[.pointer va, .pointer vb, .int .u64 x.1, .int .i64 x.2, .int .i64 (ht (.node a x b) : Nat), .int .i64 (sz (.node a x b) : Nat)] e')) (w.alloc (.cells #[.pointer va, .pointer vb, .int .u64 x.1, .int .i64 x.2, .int .i64 (ht (.node a x b) : Nat), .int .i64 (sz (.node a x b) : Nat)] e')).heap.size (some ⟨w.heap.size, 0, none⟩) (.node a x b) :=
    ⟨w.heap.size, va, vb, rfl, by simp, hB.cell 0, hB.cell 1, hB.cell 2, hB.cell 3, hB.cell 4, hB.cell 5, ha.new _, hb.new _⟩
  exact ⟨_, rfl, hT.cqt hw, Bl.qt (Bl.new h0 _) hw⟩
set_option maxRecDepth 100000 in
set_option maxHeartbeats 2000000 in
theorem tree_any {va vb : Option Addr} {a b : Tr (Int × Int)} {x : Int × Int} {w : World} (ha : IsTr w w.heap.size va a) (hb : IsTr w w.heap.size vb b) (hsa : sz a ≤ 1000000000) (hsb : sz b ≤ 1000000000) :
    Calls Try.prog 44 #[.pointer va, .agg #[.int .u64 x.1, .int .i64 x.2], .pointer vb] w (TrPost w (.node a x b)) := by
  obtain ⟨K, hK⟩ : ∃ K, K = w.heap.size := ⟨_, rfl⟩
  obtain ⟨w0, hw0⟩ : ∃ w0, w0 = w.alloc (.cells #[.int .u64 x.1, .int .i64 x.2] 71) := ⟨_, rfl⟩
  have B0 : Hid (Below w.heap.size w w0) := hid (by rw [hw0]; exact bel_new w _)
  have x0 : w0.cell? ⟨K, 0, none⟩ = some (.int .u64 x.1) := by rw [hw0, hK]; exact (Blk.new w _ [.int .u64 x.1, .int .i64 x.2]).cell 0
  have x1 : w0.cell? ⟨K, 1, none⟩ = some (.int .i64 x.2) := by rw [hw0, hK]; exact (Blk.new w _ [.int .u64 x.1, .int .i64 x.2]).cell 1
  have HW := hid hw0
  have HK := hid hK
  clear hK hw0
  have HA : Hid (IsTr w0 w0.heap.size va a) := hid (by rw [HW.out]; exact ha.new _)
  have HB : Hid (IsTr w0 w0.heap.size vb b) := hid (by rw [HW.out]; exact hb.new _)
  have ka := ht_le_sz a
  have kb := ht_le_sz b
  clear ha hb
  have hmx : Hid (ht (.node a x b) = max (ht a) (ht b) + 1) := hid rfl
  have hsz : Hid (sz (.node a x b) = sz a + 1 + sz b) := hid rfl
  rcases Nat.lt_or_ge (ht a) (ht b) with hpq | hpq
  all_goals
    go_enter Try.func44, Try.ntmps44
    go_wp2_with fail
    rw [← HK.out, ← HW.out]
    go_region_held3 (fun w' => w'.cell? ⟨K, 0, none⟩ = some (.int .u64 x.1) ∧ w'.cell? ⟨K, 1, none⟩ = some (.int .i64 x.2))
      (first | go_keep | (go_split_ands; and_intros <;> (refine cell_later (by assumption) ?_; first | assumption | (rw [Qt.cell (qt_of _ _)]; assumption) | (rw [Qt.cell (qt_drew _)]; assumption))) | (refine cell_later (by assumption) ?_; first | assumption | (rw [Qt.cell (qt_of _ _)]; assumption) | (rw [Qt.cell (qt_drew _)]; assumption)))
      (first | (go_at_call 45; (with_reducible refine (height_any (HA.out.cqt (qt_of _ _))).mono ?_); rintro e w' ⟨rfl, rfl⟩)
             | (go_at_call 45; (with_reducible refine (height_any (HA.out.cqt (qt_drew _))).mono ?_); rintro e w' ⟨rfl, rfl⟩)
             | (go_at_call 45; (with_reducible refine (height_any (HB.out.cqt (qt_of _ _))).mono ?_); rintro e w' ⟨rfl, rfl⟩)
             | (go_at_call 45; (with_reducible refine (height_any (HB.out.cqt (qt_drew _))).mono ?_); rintro e w' ⟨rfl, rfl⟩)
             | (go_at_call 39; (with_reducible refine (len_any (HA.out.cqt (qt_of _ _))).mono ?_); rintro e w' ⟨rfl, rfl⟩)
             | (go_at_call 39; (with_reducible refine (len_any (HA.out.cqt (qt_drew _))).mono ?_); rintro e w' ⟨rfl, rfl⟩)
             | (go_at_call 39; (with_reducible refine (len_any (HB.out.cqt (qt_of _ _))).mono ?_); rintro e w' ⟨rfl, rfl⟩)
             | (go_at_call 39; (with_reducible refine (len_any (HB.out.cqt (qt_drew _))).mono ?_); rintro e w' ⟨rfl, rfl⟩))
    all_goals
      go_wp2
      go_ret
      refine tree_new (w := w0) _ _ _ _ _ B0.out (by first | exact qt_drew _ | exact qt_of _ _ | exact Qt.refl _) HA.out HB.out ?_ ?_ rfl
      · rw [hmx.out, IntKind.wrap_i64]; omega
      · rw [hsz.out, IntKind.wrap_i64, IntKind.wrap_i64]; omega
end Go.Proofs.Ytcbedngimgkcoaa
