/- MgPs: PsA to PsH, merged. -/
import Derived.Test.YtbafbnkmmpaomaaMgA
import Derived.Test.YtbafbnkmmpaomaaBase
import Derived.Deep.RegionHeld3
import Derived.Deep.DrawnRows
import Derived.Deep.LoopGhost
import Derived.Deep.RegionHeldLaw
import Derived.Deep.AppendLies
/- Sequences of pairs in memory; contracts of seq.Len, seq.Height, seq.tree. -/
namespace Go.Proofs.Ytbafbnkmmpaomaa
open Go.RowKit Sq
set_option linter.unusedVariables false
attribute [local go_sem ↓] Go.wp_at_zero Go.wp_at_succ

theorem qt_of (w : World) (n : Nat) : Qt w (w.drewN n) := ⟨n, rfl⟩
theorem qt_drew (w : World) : Qt w w.drew := ⟨1, rfl⟩
/-- The pointer v leads to the sequence t, whose blocks are below B. -/
def IsTr (w : World) (B : Nat) : Option Addr → Tr (Int × Int) → Prop
  | v, .nil => v = none
  | v, .node a x b => ∃ k va vb, v = some ⟨k, 0, none⟩ ∧ k < B ∧ w.cell? ⟨k, 0, none⟩ = some (.pointer va) ∧ w.cell? ⟨k, 1, none⟩ = some (.pointer vb) ∧ w.cell? ⟨k, 2, none⟩ = some (.int .u64 x.1) ∧ w.cell? ⟨k, 3, none⟩ = some (.int .i64 x.2) ∧
      w.cell? ⟨k, 4, none⟩ = some (.int .i64 (ht (.node a x b) : Nat)) ∧ w.cell? ⟨k, 5, none⟩ = some (.int .i64 (sz (.node a x b) : Nat)) ∧ IsTr w B va a ∧ IsTr w B vb b
theorem IsTr.keep {w w' : World} {B B' : Nat} {v : Option Addr} {t : Tr (Int × Int)} (h : IsTr w B v t) (hB : B ≤ B') (hk : ∀ b o, b < B → w'.cell? ⟨b, o, none⟩ = w.cell? ⟨b, o, none⟩) : IsTr w' B' v t := by
  induction t generalizing v with
  | nil => exact h
  | node a x b iha ihb =>
    obtain ⟨k, va, vb, hv, hlt, h0, h1, h2, h2', h3, h4, ha, hb⟩ := h
    exact ⟨k, va, vb, hv, by omega, (hk k 0 hlt).trans h0, (hk k 1 hlt).trans h1, (hk k 2 hlt).trans h2, (hk k 3 hlt).trans h2', (hk k 4 hlt).trans h3, (hk k 5 hlt).trans h4, iha ha, ihb hb⟩
theorem IsTr.call {w a : World} {v : Option Addr} {t : Tr (Int × Int)} (h : IsTr w w.heap.size v t) (hb : Below w.heap.size w a) : IsTr a a.heap.size v t :=
  h.keep hb.size fun b o hlt => hb.cell (p := ⟨b, o, none⟩) hlt
theorem IsTr.cqt {w a : World} {v : Option Addr} {t : Tr (Int × Int)} (h : IsTr w w.heap.size v t) (hq : Qt w a) : IsTr a a.heap.size v t := h.call hq.bel
theorem IsTr.new {w : World} {v : Option Addr} {t : Tr (Int × Int)} (h : IsTr w w.heap.size v t) (o : Obj) : IsTr (w.alloc o) (w.alloc o).heap.size v t := h.call (bel_new w o)
theorem IsTr.none_ (w : World) (B : Nat) : IsTr w B none .nil := rfl

theorem len_any {v : Option Addr} {t : Tr (Int × Int)} {B : Nat} {w : World} (h : IsTr w B v t) :
    Calls Try.prog 73 #[.pointer v] w fun e w' => e = .returned (.int .i64 (sz t : Nat)) ∧ w = w' := by
  cases t with
  | nil =>
    obtain rfl : v = none := h
    go_enter Try.func73, Try.ntmps73
    go_wp2
    go_ret
    exact ⟨rfl, rfl⟩
  | node a x b =>
    obtain ⟨k, va, vb, rfl, hlt, h0, h1, h2, h2', h3, h4, ha, hb⟩ := h
    clear h0 h1 h2 h2' h3 ha hb
    generalize sz (.node a x b) = n at *
    go_enter Try.func73, Try.ntmps73
    go_wp2
    go_ret
    exact ⟨rfl, rfl⟩
theorem height_any {v : Option Addr} {t : Tr (Int × Int)} {B : Nat} {w : World} (h : IsTr w B v t) :
    Calls Try.prog 78 #[.pointer v] w fun e w' => e = .returned (.int .i64 (ht t : Nat)) ∧ w = w' := by
  cases t with
  | nil =>
    obtain rfl : v = none := h
    go_enter Try.func78, Try.ntmps78
    go_wp2
    go_ret
    exact ⟨rfl, rfl⟩
  | node a x b =>
    obtain ⟨k, va, vb, rfl, hlt, h0, h1, h2, h2', h3, h4, ha, hb⟩ := h
    clear h0 h1 h2 h2' h4 ha hb
    generalize ht (.node a x b) = n at *
    go_enter Try.func78, Try.ntmps78
    go_wp2
    go_ret
    exact ⟨rfl, rfl⟩
/-- A sequence that a call answers, and what it leaves as it was. -/
def TrPost (w : World) (t : Tr (Int × Int)) (e : Ending) (w' : World) : Prop := ∃ v, e = .returned (.pointer v) ∧ IsTr w' w'.heap.size v t ∧ Below w.heap.size w w'
theorem tree_new {va vb : Option Addr} {a b : Tr (Int × Int)} {x : Int × Int} {w0 w : World} (h s : Int) (e' : TypeId) (cs : Array Value) (w' : World) (h0 : Below w0.heap.size w0 w) (hw : Qt (w.alloc (.cells cs e')) w') (ha : IsTr w w.heap.size va a) (hb : IsTr w w.heap.size vb b)
    (hh : h = (ht (.node a x b) : Nat)) (hs : s = (sz (.node a x b) : Nat)) (hcs : cs = #[.pointer va, .pointer vb, .int .u64 x.1, .int .i64 x.2, .int .i64 h, .int .i64 s]) : TrPost w0 (.node a x b) (.returned (.pointer (some ⟨w.heap.size, 0, none⟩))) w' := by
  subst hcs hh hs
  have hB := Blk.new w e' [.pointer va, .pointer vb, .int .u64 x.1, .int .i64 x.2, .int .i64 (ht (.node a x b) : Nat), .int .i64 (sz (.node a x b) : Nat)]
  have hT : IsTr (w.alloc (.cells #[.pointer va, .pointer vb, .int .u64 x.1, .int .i64 x.2, .int .i64 (ht (.node a x b) : Nat), .int .i64 (sz (.node a x b) : Nat)] e')) (w.alloc (.cells #[.pointer va, .pointer vb, .int .u64 x.1, .int .i64 x.2, .int .i64 (ht (.node a x b) : Nat), .int .i64 (sz (.node a x b) : Nat)] e')).heap.size (some ⟨w.heap.size, 0, none⟩) (.node a x b) :=
    ⟨w.heap.size, va, vb, rfl, by simp, hB.cell 0, hB.cell 1, hB.cell 2, hB.cell 3, hB.cell 4, hB.cell 5, ha.new _, hb.new _⟩
  exact ⟨_, rfl, hT.cqt hw, Bl.qt (Bl.new h0 _) hw⟩
set_option maxRecDepth 100000 in
set_option maxHeartbeats 2000000 in
theorem tree_any {va vb : Option Addr} {a b : Tr (Int × Int)} {x : Int × Int} {w : World} (ha : IsTr w w.heap.size va a) (hb : IsTr w w.heap.size vb b) (hsa : sz a ≤ 1000000000) (hsb : sz b ≤ 1000000000) :
    Calls Try.prog 77 #[.pointer va, .agg #[.int .u64 x.1, .int .i64 x.2], .pointer vb] w (TrPost w (.node a x b)) := by
  obtain ⟨K, hK⟩ : ∃ K, K = w.heap.size := ⟨_, rfl⟩
  obtain ⟨w0, hw0⟩ : ∃ w0, w0 = w.alloc (.cells #[.int .u64 x.1, .int .i64 x.2] 110) := ⟨_, rfl⟩
  have B0 : Hid (Below w.heap.size w w0) := hid (by rw [hw0]; exact bel_new w _)
  have x0 : w0.cell? ⟨K, 0, none⟩ = some (.int .u64 x.1) := by rw [hw0, hK]; exact (Blk.new w _ [.int .u64 x.1, .int .i64 x.2]).cell 0
  have x1 : w0.cell? ⟨K, 1, none⟩ = some (.int .i64 x.2) := by rw [hw0, hK]; exact (Blk.new w _ [.int .u64 x.1, .int .i64 x.2]).cell 1
  have HW := hid hw0
  have HK := hid hK
  clear hK hw0
  have HA : Hid (IsTr w0 w0.heap.size va a) := hid (by rw [HW.out]; exact ha.new _)
  have HB : Hid (IsTr w0 w0.heap.size vb b) := hid (by rw [HW.out]; exact hb.new _)
  have ka := ht_le_sz a
  have kb := ht_le_sz b
  clear ha hb
  have hmx : Hid (ht (.node a x b) = max (ht a) (ht b) + 1) := hid rfl
  have hsz : Hid (sz (.node a x b) = sz a + 1 + sz b) := hid rfl
  rcases Nat.lt_or_ge (ht a) (ht b) with hpq | hpq
  all_goals
    go_enter Try.func77, Try.ntmps77
    go_wp2_with fail
    rw [← HK.out, ← HW.out]
    go_region_held3 (fun w' => w'.cell? ⟨K, 0, none⟩ = some (.int .u64 x.1) ∧ w'.cell? ⟨K, 1, none⟩ = some (.int .i64 x.2))
      (first | go_keep | (go_split_ands; and_intros <;> (refine cell_later (by assumption) ?_; first | assumption | (rw [Qt.cell (qt_of _ _)]; assumption) | (rw [Qt.cell (qt_drew _)]; assumption))) | (refine cell_later (by assumption) ?_; first | assumption | (rw [Qt.cell (qt_of _ _)]; assumption) | (rw [Qt.cell (qt_drew _)]; assumption)))
      (first | (go_at_call 78; (with_reducible refine (height_any (HA.out.cqt (qt_of _ _))).mono ?_); rintro e w' ⟨rfl, rfl⟩)
             | (go_at_call 78; (with_reducible refine (height_any (HA.out.cqt (qt_drew _))).mono ?_); rintro e w' ⟨rfl, rfl⟩)
             | (go_at_call 78; (with_reducible refine (height_any (HB.out.cqt (qt_of _ _))).mono ?_); rintro e w' ⟨rfl, rfl⟩)
             | (go_at_call 78; (with_reducible refine (height_any (HB.out.cqt (qt_drew _))).mono ?_); rintro e w' ⟨rfl, rfl⟩)
             | (go_at_call 73; (with_reducible refine (len_any (HA.out.cqt (qt_of _ _))).mono ?_); rintro e w' ⟨rfl, rfl⟩)
             | (go_at_call 73; (with_reducible refine (len_any (HA.out.cqt (qt_drew _))).mono ?_); rintro e w' ⟨rfl, rfl⟩)
             | (go_at_call 73; (with_reducible refine (len_any (HB.out.cqt (qt_of _ _))).mono ?_); rintro e w' ⟨rfl, rfl⟩)
             | (go_at_call 73; (with_reducible refine (len_any (HB.out.cqt (qt_drew _))).mono ?_); rintro e w' ⟨rfl, rfl⟩))
    all_goals
      go_wp2
      go_ret
      refine tree_new (w := w0) _ _ _ _ _ B0.out (by first | exact qt_drew _ | exact qt_of _ _ | exact Qt.refl _) HA.out HB.out ?_ ?_ rfl
      · rw [hmx.out, IntKind.wrap_i64]; omega
      · rw [hsz.out, IntKind.wrap_i64, IntKind.wrap_i64]; omega
end Go.Proofs.Ytbafbnkmmpaomaa

/- Contract of seq.turned. -/
namespace Go.Proofs.Ytbafbnkmmpaomaa
open Go.RowKit Sq
set_option linter.unusedVariables false
attribute [local go_sem ↓] Go.wp_at_zero Go.wp_at_succ

theorem IsTr.box {w w0 : World} {v : Option Addr} {t : Tr (Int × Int)} {o : Obj} (h : IsTr w w.heap.size v t) (hw : w0 = w.alloc o) : IsTr w0 w0.heap.size v t := by subst hw; exact h.new _
theorem height_quiet {v : Option Addr} {t : Tr (Int × Int)} {B : Nat} {w : World} {n : Nat} (h : IsTr w B v t) :
    Calls Try.prog 78 #[.pointer v] (w.drewN n) fun e w'' => e = .returned (.int .i64 (ht t : Nat)) ∧ ∃ m, w'' = w.drewN m :=
  quiet_eq ((height_any (h.keep (Nat.le_refl _) (fun _ _ _ => rfl))))

set_option maxRecDepth 100000 in
set_option maxHeartbeats 2000000 in
theorem turned_left1 {va vb : Option Addr} {aa ab b : Tr (Int × Int)} {ax x : Int × Int} {w : World} (ha : IsTr w w.heap.size va (.node aa ax ab)) (hb : IsTr w w.heap.size vb b) (hs : sz (.node aa ax ab) + sz b ≤ 100000000)
    (h : ht b + 1 < ht (.node aa ax ab)) (h1 : ht ab ≤ ht aa) :
    Calls Try.prog 79 #[.pointer va, .agg #[.int .u64 x.1, .int .i64 x.2], .pointer vb] w (TrPost w (turned (.node aa ax ab) x b)) := by
  rw [turned_l1 h h1]
  obtain ⟨K, hK⟩ : ∃ K, K = w.heap.size := ⟨_, rfl⟩
  obtain ⟨w0, hw0⟩ : ∃ w0, w0 = w.alloc (.cells #[.int .u64 x.1, .int .i64 x.2] 110) := ⟨_, rfl⟩
  have B0 : Hid (Below w.heap.size w w0) := hid (by rw [hw0]; exact bel_new w _)
  have x0 : w0.cell? ⟨K, 0, none⟩ = some (.int .u64 x.1) := by rw [hw0, hK]; exact (Blk.new w _ [.int .u64 x.1, .int .i64 x.2]).cell 0
  have x1 : w0.cell? ⟨K, 1, none⟩ = some (.int .i64 x.2) := by rw [hw0, hK]; exact (Blk.new w _ [.int .u64 x.1, .int .i64 x.2]).cell 1
  have HW := hid hw0
  have HK := hid hK
  clear hK hw0
  replace ha := ha.box HW.out
  replace hb := hb.box HW.out
  have HA := hid ha
  have HB := hid hb
  obtain ⟨k, pa, pb, rfl, hlt, c0, c1, c2, c2', c3, c4, hpa, hpb⟩ := ha
  have HPA := hid hpa
  have HPB := hid hpb
  have hsz : sz (.node aa ax ab) = sz aa + 1 + sz ab := rfl
  have hsn : Hid (sz (.node ab x b) = sz ab + 1 + sz b) := hid rfl
  have hs1 : sz aa + sz ab + sz b ≤ 100000000 := by omega
  have b1 := ht_le_sz aa
  have b2 := ht_le_sz ab
  have b3 := ht_le_sz b
  have b4 := ht_le_sz (.node aa ax ab)
  rw [hsz] at b4
  clear hb hpa hpb c3 c4 hs hsz
  have h' : (ht b : Int) + 1 < (ht (.node aa ax ab) : Int) := by omega
  have q1 : sz aa ≤ 1000000000 := by omega
  have q2 : sz ab ≤ 1000000000 := by omega
  have q3 : sz b ≤ 1000000000 := by omega
  have q4 : sz (.node ab x b) ≤ 1000000000 := by rw [hsn.out]; omega
  have h1' : (ht ab : Int) ≤ (ht aa : Int) := by omega
  go_enter Try.func79, Try.ntmps79
  go_wp2_with fail
  rw [← HK.out, ← HW.out]
  refine (height_any HA.out).mono ?_; rintro e w' ⟨rfl, rfl⟩
  go_wp2_with fail
  refine (height_any HB.out).mono ?_; rintro e w' ⟨rfl, rfl⟩
  go_wp2_with fail
  go_quiet (first | (go_at_call 78; with_reducible exact height_quiet HPA.out) | (go_at_call 78; with_reducible exact height_quiet HPB.out))
  go_wp2_with fail
  go_region_held3 (fun w' => w'.cell? ⟨k, 0, none⟩ = some (.pointer pa) ∧ w'.cell? ⟨k, 1, none⟩ = some (.pointer pb) ∧ w'.cell? ⟨k, 2, none⟩ = some (.int .u64 ax.1) ∧ w'.cell? ⟨k, 3, none⟩ = some (.int .i64 ax.2) ∧ w'.cell? ⟨K, 0, none⟩ = some (.int .u64 x.1) ∧ w'.cell? ⟨K, 1, none⟩ = some (.int .i64 x.2))
    (first | go_keep | (go_split_ands; and_intros <;> (refine cell_later (by assumption) ?_; first | assumption | (rw [Qt.cell (qt_of _ _)]; assumption) | (rw [Qt.cell (qt_drew _)]; assumption))) | (refine cell_later (by assumption) ?_; first | assumption | (rw [Qt.cell (qt_of _ _)]; assumption) | (rw [Qt.cell (qt_drew _)]; assumption)))
    (first | (go_at_call 77; (with_reducible refine (tree_any (HPB.out.cqt (qt_of _ _)) (HB.out.cqt (qt_of _ _)) q2 q3).mono ?_); rintro e w' ⟨vt, rfl, hT, hb2⟩)
           | (go_at_call 77; (with_reducible refine (tree_any ((HPA.out.cqt (qt_of _ _)).call hb2) hT q1 q4).mono ?_); rintro e w' ⟨vt2, rfl, hT2, hb3⟩))
  go_wp2
  go_ret
  exact ⟨_, rfl, hT2, (by repeat (first | exact B0.out | exact Below.refl _ _ | refine Bl.call ?_ (by assumption) | refine Bl.qt ?_ (by assumption) | refine Bl.qt ?_ (qt_drew _) | refine Bl.qt ?_ (qt_of _ _)))⟩
set_option maxRecDepth 100000 in
set_option maxHeartbeats 2000000 in
theorem turned_left2 {va vb : Option Addr} {aa ta tb b : Tr (Int × Int)} {ax tx x : Int × Int} {w : World} (ha : IsTr w w.heap.size va (.node aa ax (.node ta tx tb))) (hb : IsTr w w.heap.size vb b) (hs : sz (.node aa ax (.node ta tx tb)) + sz b ≤ 100000000)
    (h : ht b + 1 < ht (.node aa ax (.node ta tx tb))) (h1 : ¬ ht (.node ta tx tb) ≤ ht aa) :
    Calls Try.prog 79 #[.pointer va, .agg #[.int .u64 x.1, .int .i64 x.2], .pointer vb] w (TrPost w (turned (.node aa ax (.node ta tx tb)) x b)) := by
  rw [turned_l2 h h1]
  obtain ⟨K, hK⟩ : ∃ K, K = w.heap.size := ⟨_, rfl⟩
  obtain ⟨w0, hw0⟩ : ∃ w0, w0 = w.alloc (.cells #[.int .u64 x.1, .int .i64 x.2] 110) := ⟨_, rfl⟩
  have B0 : Hid (Below w.heap.size w w0) := hid (by rw [hw0]; exact bel_new w _)
  have x0 : w0.cell? ⟨K, 0, none⟩ = some (.int .u64 x.1) := by rw [hw0, hK]; exact (Blk.new w _ [.int .u64 x.1, .int .i64 x.2]).cell 0
  have x1 : w0.cell? ⟨K, 1, none⟩ = some (.int .i64 x.2) := by rw [hw0, hK]; exact (Blk.new w _ [.int .u64 x.1, .int .i64 x.2]).cell 1
  have HW := hid hw0
  have HK := hid hK
  clear hK hw0
  replace ha := ha.box HW.out
  replace hb := hb.box HW.out
  have HA := hid ha
  have HB := hid hb
  obtain ⟨k, pa, pb, rfl, hlt, c0, c1, c2, c2', c3, c4, hpa, hpb⟩ := ha
  have HPA := hid hpa
  have HPB := hid hpb
  obtain ⟨k', qa, qb, rfl, hlt', d0, d1, d2, d2', d3, d4, hqa, hqb⟩ := hpb
  have HQA := hid hqa
  have HQB := hid hqb
  have hsz : sz (.node aa ax (.node ta tx tb)) = sz aa + 1 + (sz ta + 1 + sz tb) := rfl
  have hsz' : sz (.node ta tx tb) = sz ta + 1 + sz tb := rfl
  have hs1 : sz aa + sz ta + sz tb + sz b ≤ 100000000 := by omega
  have q1 : sz aa ≤ 1000000000 := by omega
  have q2 : sz ta ≤ 1000000000 := by omega
  have q3 : sz tb ≤ 1000000000 := by omega
  have q4 : sz b ≤ 1000000000 := by omega
  have q5 : sz (.node aa ax ta) ≤ 1000000000 := by simp only [sz]; omega
  have q6 : sz (.node tb x b) ≤ 1000000000 := by simp only [sz]; omega
  have b1 := ht_le_sz aa
  have b2 := ht_le_sz (.node ta tx tb)
  have b3 := ht_le_sz b
  have b4 := ht_le_sz (.node aa ax (.node ta tx tb))
  rw [hsz] at b4
  rw [hsz'] at b2
  clear hb hpa hqa hqb c3 c4 d3 d4 hs hsz hsz'
  have h' : (ht b : Int) + 1 < (ht (.node aa ax (.node ta tx tb)) : Int) := by omega
  have h1' : ¬ (ht (.node ta tx tb) : Int) ≤ (ht aa : Int) := by omega
  go_enter Try.func79, Try.ntmps79
  go_wp2_with fail
  rw [← HK.out, ← HW.out]
  refine (height_any HA.out).mono ?_; rintro e w' ⟨rfl, rfl⟩
  go_wp2_with fail
  refine (height_any HB.out).mono ?_; rintro e w' ⟨rfl, rfl⟩
  go_wp2_with fail
  go_quiet (first | (go_at_call 78; with_reducible exact height_quiet HPA.out) | (go_at_call 78; with_reducible exact height_quiet HPB.out))
  go_wp2_with fail
  go_region_held3 (fun w' => w'.cell? ⟨k, 0, none⟩ = some (.pointer pa) ∧ w'.cell? ⟨k, 2, none⟩ = some (.int .u64 ax.1) ∧ w'.cell? ⟨k, 3, none⟩ = some (.int .i64 ax.2) ∧ w'.cell? ⟨k', 0, none⟩ = some (.pointer qa) ∧ w'.cell? ⟨k', 1, none⟩ = some (.pointer qb) ∧ w'.cell? ⟨k', 2, none⟩ = some (.int .u64 tx.1) ∧ w'.cell? ⟨k', 3, none⟩ = some (.int .i64 tx.2) ∧ w'.cell? ⟨K, 0, none⟩ = some (.int .u64 x.1) ∧ w'.cell? ⟨K, 1, none⟩ = some (.int .i64 x.2))
    (first | go_keep | (go_split_ands; and_intros <;> (refine cell_later (by assumption) ?_; first | assumption | (rw [Qt.cell (qt_of _ _)]; assumption) | (rw [Qt.cell (qt_drew _)]; assumption))) | (refine cell_later (by assumption) ?_; first | assumption | (rw [Qt.cell (qt_of _ _)]; assumption) | (rw [Qt.cell (qt_drew _)]; assumption)))
    (first | (go_at_call 77; (with_reducible refine (tree_any (HPA.out.cqt (qt_of _ _)) (HQA.out.cqt (qt_of _ _)) q1 q2).mono ?_); rintro e w' ⟨vt, rfl, hT, hb2⟩)
           | (go_at_call 77; (with_reducible refine (tree_any ((HQB.out.cqt (qt_of _ _)).call hb2) ((HB.out.cqt (qt_of _ _)).call hb2) q3 q4).mono ?_); rintro e w' ⟨vt2, rfl, hT2, hb3⟩)
           | (go_at_call 77; (with_reducible refine (tree_any (hT.call hb3) hT2 q5 q6).mono ?_); rintro e w' ⟨vt3, rfl, hT3, hb4⟩))
  go_wp2
  go_ret
  exact ⟨_, rfl, hT3, (by repeat (first | exact B0.out | exact Below.refl _ _ | refine Bl.call ?_ (by assumption) | refine Bl.qt ?_ (by assumption) | refine Bl.qt ?_ (qt_drew _) | refine Bl.qt ?_ (qt_of _ _)))⟩

set_option maxRecDepth 100000 in
set_option maxHeartbeats 2000000 in
theorem turned_right1 {va vb : Option Addr} {a ba bb : Tr (Int × Int)} {bx x : Int × Int} {w : World} (ha : IsTr w w.heap.size va a) (hb : IsTr w w.heap.size vb (.node ba bx bb)) (hs : sz a + sz (.node ba bx bb) ≤ 100000000)
    (h0 : ¬ ht (.node ba bx bb) + 1 < ht a) (h : ht a + 1 < ht (.node ba bx bb)) (h1 : ht ba ≤ ht bb) :
    Calls Try.prog 79 #[.pointer va, .agg #[.int .u64 x.1, .int .i64 x.2], .pointer vb] w (TrPost w (turned a x (.node ba bx bb))) := by
  rw [turned_r1 h0 h h1]
  obtain ⟨K, hK⟩ : ∃ K, K = w.heap.size := ⟨_, rfl⟩
  obtain ⟨w0, hw0⟩ : ∃ w0, w0 = w.alloc (.cells #[.int .u64 x.1, .int .i64 x.2] 110) := ⟨_, rfl⟩
  have B0 : Hid (Below w.heap.size w w0) := hid (by rw [hw0]; exact bel_new w _)
  have x0 : w0.cell? ⟨K, 0, none⟩ = some (.int .u64 x.1) := by rw [hw0, hK]; exact (Blk.new w _ [.int .u64 x.1, .int .i64 x.2]).cell 0
  have x1 : w0.cell? ⟨K, 1, none⟩ = some (.int .i64 x.2) := by rw [hw0, hK]; exact (Blk.new w _ [.int .u64 x.1, .int .i64 x.2]).cell 1
  have HW := hid hw0
  have HK := hid hK
  clear hK hw0
  replace ha := ha.box HW.out
  replace hb := hb.box HW.out
  have HA := hid ha
  have HB := hid hb
  obtain ⟨k, pa, pb, rfl, hlt, c0, c1, c2, c2', c3, c4, hpa, hpb⟩ := hb
  have HPA := hid hpa
  have HPB := hid hpb
  have hsz : sz (.node ba bx bb) = sz ba + 1 + sz bb := rfl
  have hs1 : sz a + sz ba + sz bb ≤ 100000000 := by omega
  have q1 : sz a ≤ 1000000000 := by omega
  have q2 : sz ba ≤ 1000000000 := by omega
  have q3 : sz bb ≤ 1000000000 := by omega
  have q4 : sz (.node a x ba) ≤ 1000000000 := by simp only [sz]; omega
  have b1 := ht_le_sz ba
  have b2 := ht_le_sz bb
  have b3 := ht_le_sz a
  have b4 := ht_le_sz (.node ba bx bb)
  rw [hsz] at b4
  clear ha hpa hpb c3 c4 hs hsz
  have h0' : ¬ (ht (.node ba bx bb) : Int) + 1 < (ht a : Int) := by omega
  have h' : (ht a : Int) + 1 < (ht (.node ba bx bb) : Int) := by omega
  have h1' : (ht ba : Int) ≤ (ht bb : Int) := by omega
  go_enter Try.func79, Try.ntmps79
  go_wp2_with fail
  rw [← HK.out, ← HW.out]
  refine (height_any HA.out).mono ?_; rintro e w' ⟨rfl, rfl⟩
  go_wp2_with fail
  refine (height_any HB.out).mono ?_; rintro e w' ⟨rfl, rfl⟩
  go_wp2_with fail
  refine (height_any HB.out).mono ?_; rintro e w' ⟨rfl, rfl⟩
  go_wp2_with fail
  refine (height_any HA.out).mono ?_; rintro e w' ⟨rfl, rfl⟩
  go_wp2_with fail
  go_quiet (first | (go_at_call 78; with_reducible exact height_quiet HPB.out) | (go_at_call 78; with_reducible exact height_quiet HPA.out))
  go_wp2_with fail
  go_region_held3 (fun w' => w'.cell? ⟨k, 0, none⟩ = some (.pointer pa) ∧ w'.cell? ⟨k, 1, none⟩ = some (.pointer pb) ∧ w'.cell? ⟨k, 2, none⟩ = some (.int .u64 bx.1) ∧ w'.cell? ⟨k, 3, none⟩ = some (.int .i64 bx.2) ∧ w'.cell? ⟨K, 0, none⟩ = some (.int .u64 x.1) ∧ w'.cell? ⟨K, 1, none⟩ = some (.int .i64 x.2))
    (first | go_keep | (go_split_ands; and_intros <;> (refine cell_later (by assumption) ?_; first | assumption | (rw [Qt.cell (qt_of _ _)]; assumption) | (rw [Qt.cell (qt_drew _)]; assumption))) | (refine cell_later (by assumption) ?_; first | assumption | (rw [Qt.cell (qt_of _ _)]; assumption) | (rw [Qt.cell (qt_drew _)]; assumption)))
    (first | (go_at_call 77; (with_reducible refine (tree_any (HA.out.cqt (qt_of _ _)) (HPA.out.cqt (qt_of _ _)) q1 q2).mono ?_); rintro e w' ⟨vt, rfl, hT, hb2⟩)
           | (go_at_call 77; (with_reducible refine (tree_any hT ((HPB.out.cqt (qt_of _ _)).call hb2) q4 q3).mono ?_); rintro e w' ⟨vt2, rfl, hT2, hb3⟩))
  go_wp2
  go_ret
  exact ⟨_, rfl, hT2, (by repeat (first | exact B0.out | exact Below.refl _ _ | refine Bl.call ?_ (by assumption) | refine Bl.qt ?_ (by assumption) | refine Bl.qt ?_ (qt_drew _) | refine Bl.qt ?_ (qt_of _ _)))⟩

set_option maxRecDepth 100000 in
set_option maxHeartbeats 2000000 in
theorem turned_right2 {va vb : Option Addr} {a ta tb bb : Tr (Int × Int)} {tx bx x : Int × Int} {w : World} (ha : IsTr w w.heap.size va a) (hb : IsTr w w.heap.size vb (.node (.node ta tx tb) bx bb)) (hs : sz a + sz (.node (.node ta tx tb) bx bb) ≤ 100000000)
    (h0 : ¬ ht (.node (.node ta tx tb) bx bb) + 1 < ht a) (h : ht a + 1 < ht (.node (.node ta tx tb) bx bb)) (h1 : ¬ ht (.node ta tx tb) ≤ ht bb) :
    Calls Try.prog 79 #[.pointer va, .agg #[.int .u64 x.1, .int .i64 x.2], .pointer vb] w (TrPost w (turned a x (.node (.node ta tx tb) bx bb))) := by
  rw [turned_r2 h0 h h1]
  obtain ⟨K, hK⟩ : ∃ K, K = w.heap.size := ⟨_, rfl⟩
  obtain ⟨w0, hw0⟩ : ∃ w0, w0 = w.alloc (.cells #[.int .u64 x.1, .int .i64 x.2] 110) := ⟨_, rfl⟩
  have B0 : Hid (Below w.heap.size w w0) := hid (by rw [hw0]; exact bel_new w _)
  have x0 : w0.cell? ⟨K, 0, none⟩ = some (.int .u64 x.1) := by rw [hw0, hK]; exact (Blk.new w _ [.int .u64 x.1, .int .i64 x.2]).cell 0
  have x1 : w0.cell? ⟨K, 1, none⟩ = some (.int .i64 x.2) := by rw [hw0, hK]; exact (Blk.new w _ [.int .u64 x.1, .int .i64 x.2]).cell 1
  have HW := hid hw0
  have HK := hid hK
  clear hK hw0
  replace ha := ha.box HW.out
  replace hb := hb.box HW.out
  have HA := hid ha
  have HB := hid hb
  obtain ⟨k, pa, pb, rfl, hlt, c0, c1, c2, c2', c3, c4, hpa, hpb⟩ := hb
  have HPA := hid hpa
  have HPB := hid hpb
  obtain ⟨k', qa, qb, rfl, hlt', d0, d1, d2, d2', d3, d4, hqa, hqb⟩ := hpa
  have HQA := hid hqa
  have HQB := hid hqb
  have hsz : sz (.node (.node ta tx tb) bx bb) = (sz ta + 1 + sz tb) + 1 + sz bb := rfl
  have hsz' : sz (.node ta tx tb) = sz ta + 1 + sz tb := rfl
  have hs1 : sz a + sz ta + sz tb + sz bb ≤ 100000000 := by omega
  have q1 : sz a ≤ 1000000000 := by omega
  have q2 : sz ta ≤ 1000000000 := by omega
  have q3 : sz tb ≤ 1000000000 := by omega
  have q4 : sz bb ≤ 1000000000 := by omega
  have q5 : sz (.node a x ta) ≤ 1000000000 := by simp only [sz]; omega
  have q6 : sz (.node tb bx bb) ≤ 1000000000 := by simp only [sz]; omega
  have b1 := ht_le_sz a
  have b2 := ht_le_sz (.node ta tx tb)
  have b3 := ht_le_sz bb
  have b4 := ht_le_sz (.node (.node ta tx tb) bx bb)
  rw [hsz] at b4
  rw [hsz'] at b2
  clear ha hpb hqa hqb c3 c4 d3 d4 hs hsz hsz'
  have h0' : ¬ (ht (.node (.node ta tx tb) bx bb) : Int) + 1 < (ht a : Int) := by omega
  have h' : (ht a : Int) + 1 < (ht (.node (.node ta tx tb) bx bb) : Int) := by omega
  have h1' : ¬ (ht (.node ta tx tb) : Int) ≤ (ht bb : Int) := by omega
  go_enter Try.func79, Try.ntmps79
  go_wp2_with fail
  rw [← HK.out, ← HW.out]
  refine (height_any HA.out).mono ?_; rintro e w' ⟨rfl, rfl⟩
  go_wp2_with fail
  refine (height_any HB.out).mono ?_; rintro e w' ⟨rfl, rfl⟩
  go_wp2_with fail
  refine (height_any HB.out).mono ?_; rintro e w' ⟨rfl, rfl⟩
  go_wp2_with fail
  refine (height_any HA.out).mono ?_; rintro e w' ⟨rfl, rfl⟩
  go_wp2_with fail
  go_quiet (first | (go_at_call 78; with_reducible exact height_quiet HPB.out) | (go_at_call 78; with_reducible exact height_quiet HPA.out))
  go_wp2_with fail
  go_region_held3 (fun w' => w'.cell? ⟨k, 1, none⟩ = some (.pointer pb) ∧ w'.cell? ⟨k, 2, none⟩ = some (.int .u64 bx.1) ∧ w'.cell? ⟨k, 3, none⟩ = some (.int .i64 bx.2) ∧ w'.cell? ⟨k', 0, none⟩ = some (.pointer qa) ∧ w'.cell? ⟨k', 1, none⟩ = some (.pointer qb) ∧ w'.cell? ⟨k', 2, none⟩ = some (.int .u64 tx.1) ∧ w'.cell? ⟨k', 3, none⟩ = some (.int .i64 tx.2) ∧ w'.cell? ⟨K, 0, none⟩ = some (.int .u64 x.1) ∧ w'.cell? ⟨K, 1, none⟩ = some (.int .i64 x.2))
    (first | go_keep | (go_split_ands; and_intros <;> (refine cell_later (by assumption) ?_; first | assumption | (rw [Qt.cell (qt_of _ _)]; assumption) | (rw [Qt.cell (qt_drew _)]; assumption))) | (refine cell_later (by assumption) ?_; first | assumption | (rw [Qt.cell (qt_of _ _)]; assumption) | (rw [Qt.cell (qt_drew _)]; assumption)))
    (first | (go_at_call 77; (with_reducible refine (tree_any (HA.out.cqt (qt_of _ _)) (HQA.out.cqt (qt_of _ _)) q1 q2).mono ?_); rintro e w' ⟨vt, rfl, hT, hb2⟩)
           | (go_at_call 77; (with_reducible refine (tree_any ((HQB.out.cqt (qt_of _ _)).call hb2) ((HPB.out.cqt (qt_of _ _)).call hb2) q3 q4).mono ?_); rintro e w' ⟨vt2, rfl, hT2, hb3⟩)
           | (go_at_call 77; (with_reducible refine (tree_any (hT.call hb3) hT2 q5 q6).mono ?_); rintro e w' ⟨vt3, rfl, hT3, hb4⟩))
  go_wp2
  go_ret
  exact ⟨_, rfl, hT3, (by repeat (first | exact B0.out | exact Below.refl _ _ | refine Bl.call ?_ (by assumption) | refine Bl.qt ?_ (by assumption) | refine Bl.qt ?_ (qt_drew _) | refine Bl.qt ?_ (qt_of _ _)))⟩

theorem turned_mid {va vb : Option Addr} {a b : Tr (Int × Int)} {x : Int × Int} {w : World} (ha : IsTr w w.heap.size va a) (hb : IsTr w w.heap.size vb b) (hs : sz a + sz b ≤ 100000000)
    (h0 : ¬ ht b + 1 < ht a) (h : ¬ ht a + 1 < ht b) :
    Calls Try.prog 79 #[.pointer va, .agg #[.int .u64 x.1, .int .i64 x.2], .pointer vb] w (TrPost w (turned a x b)) := by
  rw [turned_c h0 h]
  obtain ⟨K, hK⟩ : ∃ K, K = w.heap.size := ⟨_, rfl⟩
  obtain ⟨w0, hw0⟩ : ∃ w0, w0 = w.alloc (.cells #[.int .u64 x.1, .int .i64 x.2] 110) := ⟨_, rfl⟩
  have B0 : Hid (Below w.heap.size w w0) := hid (by rw [hw0]; exact bel_new w _)
  have x0 : w0.cell? ⟨K, 0, none⟩ = some (.int .u64 x.1) := by rw [hw0, hK]; exact (Blk.new w _ [.int .u64 x.1, .int .i64 x.2]).cell 0
  have x1 : w0.cell? ⟨K, 1, none⟩ = some (.int .i64 x.2) := by rw [hw0, hK]; exact (Blk.new w _ [.int .u64 x.1, .int .i64 x.2]).cell 1
  have HW := hid hw0
  have HK := hid hK
  clear hK hw0
  replace ha := ha.box HW.out
  replace hb := hb.box HW.out
  have HA := hid ha
  have HB := hid hb
  have q1 : sz a ≤ 1000000000 := by omega
  have q2 : sz b ≤ 1000000000 := by omega
  have b1 := ht_le_sz a
  have b2 := ht_le_sz b
  have h0' : ¬ (ht b : Int) + 1 < (ht a : Int) := by omega
  have h' : ¬ (ht a : Int) + 1 < (ht b : Int) := by omega
  clear ha hb
  go_enter Try.func79, Try.ntmps79
  go_wp2_with fail
  rw [← HK.out, ← HW.out]
  refine (height_any HA.out).mono ?_; rintro e w' ⟨rfl, rfl⟩
  go_wp2_with fail
  refine (height_any HB.out).mono ?_; rintro e w' ⟨rfl, rfl⟩
  go_wp2_with fail
  refine (height_any HB.out).mono ?_; rintro e w' ⟨rfl, rfl⟩
  go_wp2_with fail
  refine (height_any HA.out).mono ?_; rintro e w' ⟨rfl, rfl⟩
  go_wp2_with fail
  refine (tree_any HA.out HB.out q1 q2).mono ?_; rintro e w' ⟨vt, rfl, hT, hb2⟩
  go_wp2
  go_ret
  exact ⟨_, rfl, hT, (by repeat (first | exact B0.out | exact Below.refl _ _ | refine Bl.call ?_ (by assumption) | refine Bl.qt ?_ (by assumption) | refine Bl.qt ?_ (qt_drew _) | refine Bl.qt ?_ (qt_of _ _)))⟩
theorem turned_any {va vb : Option Addr} {a b : Tr (Int × Int)} {x : Int × Int} {w : World} (ha : IsTr w w.heap.size va a) (hb : IsTr w w.heap.size vb b) (hs : sz a + sz b ≤ 100000000) :
    Calls Try.prog 79 #[.pointer va, .agg #[.int .u64 x.1, .int .i64 x.2], .pointer vb] w (TrPost w (turned a x b)) := by
  by_cases h0 : ht b + 1 < ht a
  · cases a with
    | nil => simp [ht] at h0
    | node aa ax ab =>
      by_cases h1 : ht ab ≤ ht aa
      · exact turned_left1 ha hb hs h0 h1
      · cases ab with
        | nil => simp [ht] at h1
        | node ta tx tb => exact turned_left2 ha hb hs h0 h1
  · by_cases h : ht a + 1 < ht b
    · cases b with
      | nil => simp [ht] at h
      | node ba bx bb =>
        by_cases h1 : ht ba ≤ ht bb
        · exact turned_right1 ha hb hs h0 h h1
        · cases ba with
          | nil => simp [ht] at h1
          | node ta tx tb => exact turned_right2 ha hb hs h0 h h1
    · exact turned_mid ha hb hs h0 h
end Go.Proofs.Ytbafbnkmmpaomaa

/- Contracts of seq.around, seq.At. -/
namespace Go.Proofs.Ytbafbnkmmpaomaa
open Go.RowKit Sq
set_option linter.unusedVariables false
attribute [local go_sem ↓] Go.wp_at_zero Go.wp_at_succ


def AroundSaid (n : Nat) : Prop := ∀ (va vb : Option Addr) (a b : Tr (Int × Int)) (x : Int × Int) (w : World), sz a + sz b = n → IsTr w w.heap.size va a → IsTr w w.heap.size vb b → sz a + sz b ≤ 10000000 →
    Calls Try.prog 76 #[.pointer va, .agg #[.int .u64 x.1, .int .i64 x.2], .pointer vb] w (TrPost w (around a x b))

set_option maxRecDepth 100000 in
set_option maxHeartbeats 2000000 in
theorem around_l {n : Nat} (ih : ∀ m, m < n → AroundSaid m) {va vb : Option Addr} {aa ab b : Tr (Int × Int)} {ax x : Int × Int} {w : World} (hn : sz (.node aa ax ab) + sz b = n) (ha : IsTr w w.heap.size va (.node aa ax ab)) (hb : IsTr w w.heap.size vb b)
    (hs : sz (.node aa ax ab) + sz b ≤ 10000000) (h : ht b + 1 < ht (.node aa ax ab)) :
    Calls Try.prog 76 #[.pointer va, .agg #[.int .u64 x.1, .int .i64 x.2], .pointer vb] w (TrPost w (around (.node aa ax ab) x b)) := by
  rw [around_left h]
  obtain ⟨K, hK⟩ : ∃ K, K = w.heap.size := ⟨_, rfl⟩
  obtain ⟨w0, hw0⟩ : ∃ w0, w0 = w.alloc (.cells #[.int .u64 x.1, .int .i64 x.2] 110) := ⟨_, rfl⟩
  have B0 : Hid (Below w.heap.size w w0) := hid (by rw [hw0]; exact bel_new w _)
  have x0 : w0.cell? ⟨K, 0, none⟩ = some (.int .u64 x.1) := by rw [hw0, hK]; exact (Blk.new w _ [.int .u64 x.1, .int .i64 x.2]).cell 0
  have x1 : w0.cell? ⟨K, 1, none⟩ = some (.int .i64 x.2) := by rw [hw0, hK]; exact (Blk.new w _ [.int .u64 x.1, .int .i64 x.2]).cell 1
  have HW := hid hw0
  have HK := hid hK
  clear hK hw0
  replace ha := ha.box HW.out
  replace hb := hb.box HW.out
  have HA := hid ha
  have HB := hid hb
  obtain ⟨k, pa, pb, rfl, hlt, c0, c1, c2, c2', c3, c4, hpa, hpb⟩ := ha
  have HPA := hid hpa
  have HPB := hid hpb
  have hsz : sz (.node aa ax ab) = sz aa + 1 + sz ab := rfl
  have IH : ∀ {va vb : Option Addr} {w : World}, IsTr w w.heap.size va ab → IsTr w w.heap.size vb b → Hid (sz ab + sz b < n) → Calls Try.prog 76 #[.pointer va, .agg #[.int .u64 x.1, .int .i64 x.2], .pointer vb] w (TrPost w (around ab x b)) :=
    fun {va vb w} h1 h2 h3 => ih (sz ab + sz b) h3.out va vb ab b x w rfl h1 h2 (by omega)
  have h3 : Hid (sz ab + sz b < n) := hid (by omega)
  have q1 : sz ab + sz b ≤ 10000000 := by omega
  have q2 : sz aa + sz (around ab x b) ≤ 100000000 := by rw [sz_around]; omega
  have b1 := ht_le_sz b
  have b2 := ht_le_sz (.node aa ax ab)
  rw [hsz] at b2
  have hs1 : sz aa + sz ab + sz b ≤ 10000000 := by omega
  have h' : (ht b : Int) + 1 < (ht (.node aa ax ab) : Int) := by omega
  clear hb hpa hpb c3 c4 hs hsz ih hn
  go_enter Try.func76, Try.ntmps76
  go_wp2_with fail
  rw [← HK.out, ← HW.out]
  refine (height_any HA.out).mono ?_; rintro e w' ⟨rfl, rfl⟩
  go_wp2_with fail
  refine (height_any HB.out).mono ?_; rintro e w' ⟨rfl, rfl⟩
  go_wp2_with fail
  go_region_held3 (fun w' => w'.cell? ⟨k, 0, none⟩ = some (.pointer pa) ∧ w'.cell? ⟨k, 1, none⟩ = some (.pointer pb) ∧ w'.cell? ⟨k, 2, none⟩ = some (.int .u64 ax.1) ∧ w'.cell? ⟨k, 3, none⟩ = some (.int .i64 ax.2) ∧ w'.cell? ⟨K, 0, none⟩ = some (.int .u64 x.1) ∧ w'.cell? ⟨K, 1, none⟩ = some (.int .i64 x.2))
    (first | go_keep | (go_split_ands; and_intros <;> (refine cell_later (by assumption) ?_; first | assumption | (rw [Qt.cell (qt_of _ _)]; assumption) | (rw [Qt.cell (qt_drew _)]; assumption))) | (refine cell_later (by assumption) ?_; first | assumption | (rw [Qt.cell (qt_of _ _)]; assumption) | (rw [Qt.cell (qt_drew _)]; assumption)))
    (first | (go_at_call 76; (with_reducible refine (IH (HPB.out.cqt (qt_of _ _)) (HB.out.cqt (qt_of _ _)) h3).mono ?_); rintro e w' ⟨vt, rfl, hT, hb2⟩)
           | (go_at_call 76; (with_reducible refine (IH (HPB.out.cqt (qt_drew _)) (HB.out.cqt (qt_drew _)) h3).mono ?_); rintro e w' ⟨vt, rfl, hT, hb2⟩)
           | (go_at_call 79; (with_reducible refine (turned_any ((HPA.out.cqt (qt_of _ _)).call hb2) hT q2).mono ?_); rintro e w' ⟨vt2, rfl, hT2, hb3⟩)
           | (go_at_call 79; (with_reducible refine (turned_any ((HPA.out.cqt (qt_drew _)).call hb2) hT q2).mono ?_); rintro e w' ⟨vt2, rfl, hT2, hb3⟩))
  go_wp2
  go_ret
  exact ⟨_, rfl, hT2, (by repeat (first | exact B0.out | exact Below.refl _ _ | refine Bl.call ?_ (by assumption) | refine Bl.qt ?_ (by assumption) | refine Bl.qt ?_ (qt_drew _) | refine Bl.qt ?_ (qt_of _ _)))⟩

set_option maxRecDepth 100000 in
set_option maxHeartbeats 2000000 in
theorem around_r {n : Nat} (ih : ∀ m, m < n → AroundSaid m) {va vb : Option Addr} {a ba bb : Tr (Int × Int)} {bx x : Int × Int} {w : World} (hn : sz a + sz (.node ba bx bb) = n) (ha : IsTr w w.heap.size va a) (hb : IsTr w w.heap.size vb (.node ba bx bb))
    (hs : sz a + sz (.node ba bx bb) ≤ 10000000) (h0 : ¬ ht (.node ba bx bb) + 1 < ht a) (h : ht a + 1 < ht (.node ba bx bb)) :
    Calls Try.prog 76 #[.pointer va, .agg #[.int .u64 x.1, .int .i64 x.2], .pointer vb] w (TrPost w (around a x (.node ba bx bb))) := by
  rw [around_right h0 h]
  obtain ⟨K, hK⟩ : ∃ K, K = w.heap.size := ⟨_, rfl⟩
  obtain ⟨w0, hw0⟩ : ∃ w0, w0 = w.alloc (.cells #[.int .u64 x.1, .int .i64 x.2] 110) := ⟨_, rfl⟩
  have B0 : Hid (Below w.heap.size w w0) := hid (by rw [hw0]; exact bel_new w _)
  have x0 : w0.cell? ⟨K, 0, none⟩ = some (.int .u64 x.1) := by rw [hw0, hK]; exact (Blk.new w _ [.int .u64 x.1, .int .i64 x.2]).cell 0
  have x1 : w0.cell? ⟨K, 1, none⟩ = some (.int .i64 x.2) := by rw [hw0, hK]; exact (Blk.new w _ [.int .u64 x.1, .int .i64 x.2]).cell 1
  have HW := hid hw0
  have HK := hid hK
  clear hK hw0
  replace ha := ha.box HW.out
  replace hb := hb.box HW.out
  have HA := hid ha
  have HB := hid hb
  obtain ⟨k, pa, pb, rfl, hlt, c0, c1, c2, c2', c3, c4, hpa, hpb⟩ := hb
  have HPA := hid hpa
  have HPB := hid hpb
  have hsz : sz (.node ba bx bb) = sz ba + 1 + sz bb := rfl
  have IH : ∀ {va vb : Option Addr} {w : World}, IsTr w w.heap.size va a → IsTr w w.heap.size vb ba → Hid (sz a + sz ba < n) → Calls Try.prog 76 #[.pointer va, .agg #[.int .u64 x.1, .int .i64 x.2], .pointer vb] w (TrPost w (around a x ba)) :=
    fun {va vb w} h1 h2 h3 => ih (sz a + sz ba) h3.out va vb a ba x w rfl h1 h2 (by omega)
  have h3 : Hid (sz a + sz ba < n) := hid (by omega)
  have q1 : sz a + sz ba ≤ 10000000 := by omega
  have q2 : sz (around a x ba) + sz bb ≤ 100000000 := by rw [sz_around]; omega
  have b1 := ht_le_sz a
  have b2 := ht_le_sz (.node ba bx bb)
  rw [hsz] at b2
  have hs1 : sz a + sz ba + sz bb ≤ 10000000 := by omega
  have h0' : ¬ (ht (.node ba bx bb) : Int) + 1 < (ht a : Int) := by omega
  have h' : (ht a : Int) + 1 < (ht (.node ba bx bb) : Int) := by omega
  clear ha hpa hpb c3 c4 hs hsz ih hn
  go_enter Try.func76, Try.ntmps76
  go_wp2_with fail
  rw [← HK.out, ← HW.out]
  refine (height_any HA.out).mono ?_; rintro e w' ⟨rfl, rfl⟩
  go_wp2_with fail
  refine (height_any HB.out).mono ?_; rintro e w' ⟨rfl, rfl⟩
  go_wp2_with fail
  refine (height_any HB.out).mono ?_; rintro e w' ⟨rfl, rfl⟩
  go_wp2_with fail
  refine (height_any HA.out).mono ?_; rintro e w' ⟨rfl, rfl⟩
  go_wp2_with fail
  go_region_held3 (fun w' => w'.cell? ⟨k, 0, none⟩ = some (.pointer pa) ∧ w'.cell? ⟨k, 1, none⟩ = some (.pointer pb) ∧ w'.cell? ⟨k, 2, none⟩ = some (.int .u64 bx.1) ∧ w'.cell? ⟨k, 3, none⟩ = some (.int .i64 bx.2) ∧ w'.cell? ⟨K, 0, none⟩ = some (.int .u64 x.1) ∧ w'.cell? ⟨K, 1, none⟩ = some (.int .i64 x.2))
    (first | go_keep | (go_split_ands; and_intros <;> (refine cell_later (by assumption) ?_; first | assumption | (rw [Qt.cell (qt_of _ _)]; assumption) | (rw [Qt.cell (qt_drew _)]; assumption))) | (refine cell_later (by assumption) ?_; first | assumption | (rw [Qt.cell (qt_of _ _)]; assumption) | (rw [Qt.cell (qt_drew _)]; assumption)))
    (first | (go_at_call 76; (with_reducible refine (IH (HA.out.cqt (qt_of _ _)) (HPA.out.cqt (qt_of _ _)) h3).mono ?_); rintro e w' ⟨vt, rfl, hT, hb2⟩)
           | (go_at_call 76; (with_reducible refine (IH (HA.out.cqt (qt_drew _)) (HPA.out.cqt (qt_drew _)) h3).mono ?_); rintro e w' ⟨vt, rfl, hT, hb2⟩)
           | (go_at_call 79; (with_reducible refine (turned_any hT ((HPB.out.cqt (qt_of _ _)).call hb2) q2).mono ?_); rintro e w' ⟨vt2, rfl, hT2, hb3⟩)
           | (go_at_call 79; (with_reducible refine (turned_any hT ((HPB.out.cqt (qt_drew _)).call hb2) q2).mono ?_); rintro e w' ⟨vt2, rfl, hT2, hb3⟩))
  go_wp2
  go_ret
  exact ⟨_, rfl, hT2, (by repeat (first | exact B0.out | exact Below.refl _ _ | refine Bl.call ?_ (by assumption) | refine Bl.qt ?_ (by assumption) | refine Bl.qt ?_ (qt_drew _) | refine Bl.qt ?_ (qt_of _ _)))⟩

theorem around_m {va vb : Option Addr} {a b : Tr (Int × Int)} {x : Int × Int} {w : World} (ha : IsTr w w.heap.size va a) (hb : IsTr w w.heap.size vb b) (hs : sz a + sz b ≤ 10000000) (h0 : ¬ ht b + 1 < ht a) (h : ¬ ht a + 1 < ht b) :
    Calls Try.prog 76 #[.pointer va, .agg #[.int .u64 x.1, .int .i64 x.2], .pointer vb] w (TrPost w (around a x b)) := by
  rw [around_mid h0 h]
  obtain ⟨K, hK⟩ : ∃ K, K = w.heap.size := ⟨_, rfl⟩
  obtain ⟨w0, hw0⟩ : ∃ w0, w0 = w.alloc (.cells #[.int .u64 x.1, .int .i64 x.2] 110) := ⟨_, rfl⟩
  have B0 : Hid (Below w.heap.size w w0) := hid (by rw [hw0]; exact bel_new w _)
  have x0 : w0.cell? ⟨K, 0, none⟩ = some (.int .u64 x.1) := by rw [hw0, hK]; exact (Blk.new w _ [.int .u64 x.1, .int .i64 x.2]).cell 0
  have x1 : w0.cell? ⟨K, 1, none⟩ = some (.int .i64 x.2) := by rw [hw0, hK]; exact (Blk.new w _ [.int .u64 x.1, .int .i64 x.2]).cell 1
  have HW := hid hw0
  have HK := hid hK
  clear hK hw0
  replace ha := ha.box HW.out
  replace hb := hb.box HW.out
  have HA := hid ha
  have HB := hid hb
  have q1 : sz a ≤ 1000000000 := by omega
  have q2 : sz b ≤ 1000000000 := by omega
  have b1 := ht_le_sz a
  have b2 := ht_le_sz b
  have h0' : ¬ (ht b : Int) + 1 < (ht a : Int) := by omega
  have h' : ¬ (ht a : Int) + 1 < (ht b : Int) := by omega
  clear ha hb
  go_enter Try.func76, Try.ntmps76
  go_wp2_with fail
  rw [← HK.out, ← HW.out]
  refine (height_any HA.out).mono ?_; rintro e w' ⟨rfl, rfl⟩
  go_wp2_with fail
  refine (height_any HB.out).mono ?_; rintro e w' ⟨rfl, rfl⟩
  go_wp2_with fail
  refine (height_any HB.out).mono ?_; rintro e w' ⟨rfl, rfl⟩
  go_wp2_with fail
  refine (height_any HA.out).mono ?_; rintro e w' ⟨rfl, rfl⟩
  go_wp2_with fail
  refine (tree_any HA.out HB.out q1 q2).mono ?_; rintro e w' ⟨vt, rfl, hT, hb2⟩
  go_wp2
  go_ret
  exact ⟨_, rfl, hT, (by repeat (first | exact B0.out | exact Below.refl _ _ | refine Bl.call ?_ (by assumption) | refine Bl.qt ?_ (by assumption) | refine Bl.qt ?_ (qt_drew _) | refine Bl.qt ?_ (qt_of _ _)))⟩
theorem around_said (n : Nat) : AroundSaid n := by
  induction n using Nat.strongRecOn with
  | _ n ih =>
    intro va vb a b x w hn ha hb hs
    by_cases h0 : ht b + 1 < ht a
    · cases a with
      | nil => simp [ht] at h0
      | node aa ax ab => exact around_l ih hn ha hb hs h0
    · by_cases h : ht a + 1 < ht b
      · cases b with
        | nil => simp [ht] at h
        | node ba bx bb => exact around_r ih hn ha hb hs h0 h
      · exact around_m ha hb hs h0 h
theorem around_any {va vb : Option Addr} {a b : Tr (Int × Int)} {x : Int × Int} {w : World} (ha : IsTr w w.heap.size va a) (hb : IsTr w w.heap.size vb b) (hs : sz a + sz b ≤ 10000000) :
    Calls Try.prog 76 #[.pointer va, .agg #[.int .u64 x.1, .int .i64 x.2], .pointer vb] w (TrPost w (around a x b)) := around_said _ va vb a b x w rfl ha hb hs

/-- What At answers. -/
def AtPost (w : World) (z : Int × Int) (ok : Bool) (e : Ending) (w' : World) : Prop := e = .returned (.tuple #[.agg #[.int .u64 z.1, .int .i64 z.2], .bool ok]) ∧ Below w.heap.size w w'
set_option maxRecDepth 100000 in
theorem at_in {v : Option Addr} {t : Tr (Int × Int)} {w : World} {i : Nat} (h : IsTr w w.heap.size v t) (hi : i < sz t) (hs : sz t ≤ 1000000000) :
    Calls Try.prog 67 #[.pointer v, .int .i64 i] w (AtPost w ((atT t i).getD (0, 0)) true) := by
  obtain ⟨K, hK⟩ : ∃ K, K = w.heap.size := ⟨_, rfl⟩
  obtain ⟨w0, hw0⟩ : ∃ w0, w0 = w.alloc (.cells #[.int .u64 0, .int .i64 0] 110) := ⟨_, rfl⟩
  have B0 : Hid (Below w.heap.size w w0) := hid (by rw [hw0]; exact bel_new w _)
  have hB : Blk w0 K 110 [.int .u64 0, .int .i64 0] := by rw [hw0, hK]; exact Blk.new w _ _
  have HBk := hid hB
  replace h := h.box hw0
  have H := hid h
  have HW := hid hw0
  have HK := hid hK
  clear hK hw0 hB
  have hi' : ¬ (sz t : Int) ≤ (i : Int) := by omega
  have hi0 : ¬ (i : Int) < 0 := by omega
  have hi1 : decide ((i : Int) < 0) = false := decide_eq_false hi0
  have hi2 : decide ((sz t : Int) ≤ (i : Int)) = false := decide_eq_false hi'
  have hi3 : ¬ sz t ≤ i := by omega
  have hi4 : decide (sz t ≤ i) = false := decide_eq_false hi3
  obtain ⟨r, hr⟩ : ∃ r, r = (atT t i).getD (0, 0) := ⟨_, rfl⟩
  rw [← hr]
  have HR := hid hr
  clear h hr
  go_enter Try.func67, Try.ntmps67
  go_wp2_with fail
  rw [← HK.out, ← HW.out]
  refine (len_any H.out).mono ?_; rintro e w' ⟨rfl, rfl⟩
  go_wp2_with fail
  go_loopg [0, 1] (sz t) (fun gk p i wr => ∃ (u : Tr (Int × Int)) (q : Option Addr) (j : Nat), p = .pointer q ∧ i = .int .i64 j ∧ IsTr w0 w0.heap.size q u ∧ j < sz u ∧ gk = sz u ∧ sz u ≤ 1000000000 ∧ Hid ((atT u j).getD (0, 0) = r) ∧ wr = w0)
  case atStart => exact ⟨t, v, i, rfl, rfl, H.out, hi, rfl, hs, HR.out.symm, rfl⟩
  case round =>
    obtain ⟨u, q, j, rfl, rfl, hu, hj, rfl, hsu, hat, rfl⟩ := hrel
    cases u with
    | nil => simp [sz] at hj
    | node a x b =>
      obtain ⟨k, pa, pb, rfl, hlt, c0, c1, c2, c2', c3, c4, hpa, hpb⟩ := hu
      have HPA := hid hpa
      have HPB := hid hpb
      have hat' := hat.out
      rw [atT] at hat'
      have HAT := hid hat'
      have hsz : Hid (sz (.node a x b) = sz a + 1 + sz b) := hid rfl
      have hj' := hj
      have hsu' := hsu
      rw [hsz.out] at hj' hsu'
      clear hpa hpb hat hat' c3 c4 hj hsu H HR hs
      rcases Nat.lt_trichotomy j (sz a) with hc | hc | hc
      · have e1 : (j : Int) < (sz a : Int) := by omega
        go_wp2_with fail
        refine (len_any HPA.out).mono ?_; rintro e w' ⟨rfl, rfl⟩
        go_wp2
        go_roundg (sz a)
        case measure => rw [hsz.out]; omega
        case rel => exact ⟨a, pa, j, rfl, rfl, HPA.out, hc, rfl, by omega, by have := HAT.out; rwa [if_pos hc] at this, rfl⟩
      · have e1 : ¬ (j : Int) < (sz a : Int) := by omega
        have e2 : ¬ (sz a : Int) < (j : Int) := by omega
        have hr' := HAT.out
        rw [if_neg (by omega), if_pos hc] at hr'
        have hr2 : x = r := by simpa using hr'
        subst hr2
        clear hr' HAT hc
        have z0 : wr.cell? ⟨K, 0, none⟩ = some (.int .u64 0) := HBk.out.cell 0
        have z1 : wr.cell? ⟨K, 1, none⟩ = some (.int .i64 0) := HBk.out.cell 1
        have f0 : wr.frozen? ⟨K, 0, none⟩ = false := HBk.out.frozen 0
        have f1 : wr.frozen? ⟨K, 1, none⟩ = false := HBk.out.frozen 1
        go_wp2_with fail
        refine (len_any HPA.out).mono ?_; rintro e w' ⟨rfl, rfl⟩
        go_wp2
        have hP := ((HBk.out.put 0 (.int .u64 x.1)).put 1 (.int .i64 x.2))
        have g0 := hP.cell 0
        have g1 := hP.cell 1
        have hBe : Below w.heap.size w ((wr.setCell ⟨K, 0, none⟩ (.int .u64 x.1)).setCell ⟨K, 1, none⟩ (.int .i64 x.2)) := (B0.out.setCell (by rw [HK.out]; exact Nat.le_refl _) _).setCell (by rw [HK.out]; exact Nat.le_refl _) _
        clear hP z0 z1 f0 f1
        generalize (wr.setCell ⟨K, 0, none⟩ (.int .u64 x.1)).setCell ⟨K, 1, none⟩ (.int .i64 x.2) = w9 at *
        exact bodyPost_ret (v := .tuple #[.agg #[.int .u64 x.1, .int .i64 x.2], .bool true]) (by simp [results, Try.results67, go_sem, g0, g1]) rfl ⟨rfl, hBe⟩
      · have e1 : ¬ (j : Int) < (sz a : Int) := by omega
        have e2 : (sz a : Int) < (j : Int) := by omega
        have hr' := HAT.out
        rw [if_neg (by omega), if_neg (by omega)] at hr'
        have HX := hid hr'
        clear hr' HAT
        go_wp2_with fail
        refine (len_any HPA.out).mono ?_; rintro e w' ⟨rfl, rfl⟩
        go_wp2
        go_roundg (sz b)
        case measure => rw [hsz.out]; omega
        case rel => exact ⟨b, pb, j - sz a - 1, rfl, by go_num, HPB.out, by omega, rfl, by omega, HX.out, rfl⟩
set_option maxRecDepth 100000 in
theorem at_out {v : Option Addr} {t : Tr (Int × Int)} {w : World} {i : Int} (h : IsTr w w.heap.size v t) (hi : i < 0 ∨ (sz t : Int) ≤ i) :
    Calls Try.prog 67 #[.pointer v, .int .i64 i] w (AtPost w (0, 0) false) := by
  have H := hid (h.new (.cells #[.int .u64 0, .int .i64 0] 110))
  clear h
  by_cases h0 : i < 0
  · go_enter Try.func67, Try.ntmps67
    go_wp2_with fail
    exact bodyPost_ret (v := .tuple #[.agg #[.int .u64 0, .int .i64 0], .bool false]) (by simp [results, Try.results67, go_sem]) rfl ⟨rfl, Bl.new (bel_new w _) _⟩
  · have h1 : (sz t : Int) ≤ i := by omega
    clear hi
    go_enter Try.func67, Try.ntmps67
    go_wp2_with fail
    refine (len_any H.out).mono ?_; rintro e w' ⟨rfl, rfl⟩
    go_wp2_with fail
    exact bodyPost_ret (v := .tuple #[.agg #[.int .u64 0, .int .i64 0], .bool false]) (by simp [results, Try.results67, go_sem]) rfl ⟨rfl, Bl.new (bel_new w _) _⟩
end Go.Proofs.Ytbafbnkmmpaomaa

/- Contract of seq.Of at one pair. -/
namespace Go.Proofs.Ytbafbnkmmpaomaa
open Go.RowKit Sq
set_option linter.unusedVariables false
attribute [local go_sem ↓] Go.wp_at_zero Go.wp_at_succ

theorem of_nil (A : Option Addr) (c : Nat) (w : World) : Calls Try.prog 71 #[.slice A 0 c] w (TrPost w .nil) := by
  go_enter Try.func71, Try.ntmps71
  go_wp2
  go_ret
  exact ⟨_, rfl, rfl, Below.refl _ _⟩
set_option maxRecDepth 100000 in
theorem of_one {b : Nat} {x : Int × Int} {w : World} (h0 : w.cell? ⟨b, 0, none⟩ = some (.int .u64 x.1)) (h1 : w.cell? ⟨b, 1, none⟩ = some (.int .i64 x.2)) :
    Calls Try.prog 71 #[.slice (some ⟨b, 0, none⟩) 1 1] w (TrPost w (.node .nil x .nil)) := by
  have B0 : Hid (Below w.heap.size w w) := hid (Below.refl _ _)
  have i12 : IntKind.i64.wrap 1 = 1 := by decide
  have i13 : IntKind.i64.wrap ((0 : Int) + 1) = 1 := by decide
  have s0 : sz (Tr.nil : Tr (Int × Int)) ≤ 1000000000 := by decide
  go_enter Try.func71, Try.ntmps71
  go_wp2_with fail
  go_region_held3 (fun w' => w'.cell? ⟨b, 0, none⟩ = some (.int .u64 x.1) ∧ w'.cell? ⟨b, 1, none⟩ = some (.int .i64 x.2))
    (first | go_keep | (go_split_ands; and_intros <;> (refine cell_later (by assumption) ?_; first | assumption | (rw [Qt.cell (qt_of _ _)]; assumption) | (rw [Qt.cell (qt_drew _)]; assumption))) | (refine cell_later (by assumption) ?_; first | assumption | (rw [Qt.cell (qt_of _ _)]; assumption) | (rw [Qt.cell (qt_drew _)]; assumption)))
    (first | (go_at_call 71; (with_reducible refine (of_nil _ _ _).mono ?_); rintro e w2 ⟨v2, rfl, hT, hb2⟩; obtain rfl := hT)
           | (go_at_call 77; (with_reducible refine (tree_any (IsTr.none_ _ _) (IsTr.none_ _ _) s0 s0).mono ?_); rintro e w4 ⟨v4, rfl, hT4, hb4⟩))
  all_goals
    go_wp2
    go_ret
    exact ⟨_, rfl, hT4, (by repeat (first | exact B0.out | exact Below.refl _ _ | refine Bl.call ?_ (by assumption) | refine Bl.qt ?_ (by assumption) | refine Bl.qt ?_ (qt_drew _) | refine Bl.qt ?_ (qt_of _ _)))⟩
end Go.Proofs.Ytbafbnkmmpaomaa

/- Contracts of seq.Split, seq.Join. -/
namespace Go.Proofs.Ytbafbnkmmpaomaa
open Go.RowKit Sq
set_option linter.unusedVariables false
attribute [local go_sem ↓] Go.wp_at_zero Go.wp_at_succ

theorem split_sz (t : Tr (Int × Int)) (i : Int) : sz (split t i).1 ≤ sz t ∧ sz (split t i).2 ≤ sz t := by
  have := ls_split t i
  constructor
  · rw [← len_ls, this.1, ← len_ls t, List.length_take]; omega
  · rw [← len_ls, this.2, ← len_ls t, List.length_drop]; omega
def SpPost (w : World) (t : Tr (Int × Int)) (i : Int) (e : Ending) (w' : World) : Prop :=
  ∃ v1 v2, e = .returned (.tuple #[.pointer v1, .pointer v2]) ∧ IsTr w' w'.heap.size v1 (split t i).1 ∧ IsTr w' w'.heap.size v2 (split t i).2 ∧ Below w.heap.size w w'
theorem split_low {v : Option Addr} {t : Tr (Int × Int)} {i : Int} {w : World} (h : IsTr w w.heap.size v t) (hi : i ≤ 0) :
    Calls Try.prog 69 #[.pointer v, .int .i64 i] w (SpPost w t i) := by
  have H := hid h
  have e : split t i = (.nil, t) := by cases t with
    | nil => rfl
    | node a x b => rw [split, if_pos hi]
  have E := hid e
  clear h e
  go_enter Try.func69, Try.ntmps69
  go_wp2
  go_ret2
  exact ⟨_, _, rfl, by rw [E.out]; rfl, by rw [E.out]; exact H.out, Below.refl _ _⟩
theorem split_high {v : Option Addr} {t : Tr (Int × Int)} {i : Int} {w : World} (h : IsTr w w.heap.size v t) (hi : ¬ i ≤ 0) (hs : (sz t : Int) ≤ i) :
    Calls Try.prog 69 #[.pointer v, .int .i64 i] w (SpPost w t i) := by
  have H := hid h
  have e : split t i = (t, .nil) := by cases t with
    | nil => rfl
    | node a x b => rw [split, if_neg hi, if_pos hs]
  have E := hid e
  clear h e
  go_enter Try.func69, Try.ntmps69
  go_wp2_with fail
  refine (len_any H.out).mono ?_; rintro e w' ⟨rfl, rfl⟩
  go_wp2
  go_ret2
  exact ⟨_, _, rfl, by rw [E.out]; exact H.out, by rw [E.out]; rfl, Below.refl _ _⟩
set_option maxRecDepth 100000 in
set_option maxHeartbeats 2000000 in
theorem split_any {v : Option Addr} {t : Tr (Int × Int)} {i : Int} {w : World} (h : IsTr w w.heap.size v t) (hsz : sz t ≤ 1000000) (hwf : -9223372036854775808 ≤ i ∧ i ≤ 9223372036854775807) :
    Calls Try.prog 69 #[.pointer v, .int .i64 i] w (SpPost w t i) := by
  induction t generalizing v i w with
  | nil => 
    by_cases h0 : i ≤ 0
    · exact split_low h h0
    · exact split_high h h0 (by simp [sz]; omega)
  | node a x b iha ihb =>
    by_cases h0 : i ≤ 0
    · exact split_low h h0
    by_cases h1 : (sz (.node a x b) : Int) ≤ i
    · exact split_high h h0 h1
    have HS := hid h
    obtain ⟨k, pa, pb, rfl, hlt, c0, c1, c2, c2', c3, c4, hpa, hpb⟩ := h
    have HPA := hid hpa
    have HPB := hid hpb
    have hn : Hid (sz (.node a x b) = sz a + 1 + sz b) := hid rfl
    have hn' := hn.out
    by_cases h2 : i ≤ (sz a : Int)
    · have E : Hid (split (.node a x b) i = ((split a i).1, around (split a i).2 x b)) := hid (by rw [split, if_neg h0, if_neg h1, if_pos h2])
      have IA := hid (iha hpa (by omega) hwf)
      have q := (split_sz a i).2
      have q1 : sz (split a i).2 + sz b ≤ 10000000 := by omega
      clear iha ihb hpa hpb c3 c4 hn' 
      go_enter Try.func69, Try.ntmps69
      go_wp2_with fail
      refine (len_any HS.out).mono ?_; rintro e w' ⟨rfl, rfl⟩
      go_wp2_with fail
      refine (len_any HPA.out).mono ?_; rintro e w' ⟨rfl, rfl⟩
      go_wp2_with fail
      refine IA.out.mono ?_; rintro e wb ⟨v1, v2, rfl, hT1, hT2, hb2⟩
      have d1 : wb.cell? ⟨k, 1, none⟩ = some (.pointer pb) := cell_later hb2 c1
      have d2 : wb.cell? ⟨k, 2, none⟩ = some (.int .u64 x.1) := cell_later hb2 c2
      have d2' : wb.cell? ⟨k, 3, none⟩ = some (.int .i64 x.2) := cell_later hb2 c2'
      have HT1 := hid hT1
      have HT2 := hid hT2
      have HB2 := hid (HPB.out.call hb2)
      clear hT1 hT2 c0 c1 c2 c2'
      go_wp2_with fail
      go_region_held3 (fun w' => w'.cell? ⟨k, 1, none⟩ = some (.pointer pb) ∧ w'.cell? ⟨k, 2, none⟩ = some (.int .u64 x.1) ∧ w'.cell? ⟨k, 3, none⟩ = some (.int .i64 x.2))
        (first | go_keep | (go_split_ands; and_intros <;> (refine cell_later (by assumption) ?_; first | assumption | (rw [Qt.cell (qt_of _ _)]; assumption) | (rw [Qt.cell (qt_drew _)]; assumption))) | (refine cell_later (by assumption) ?_; first | assumption | (rw [Qt.cell (qt_of _ _)]; assumption) | (rw [Qt.cell (qt_drew _)]; assumption)))
        (first | (go_at_call 76; (with_reducible refine (around_any (HT2.out.cqt (qt_of _ _)) (HB2.out.cqt (qt_of _ _)) q1).mono ?_); rintro e w' ⟨vt, rfl, hT, hb3⟩)
               | (go_at_call 76; (with_reducible refine (around_any (HT2.out.cqt (qt_drew _)) (HB2.out.cqt (qt_drew _)) q1).mono ?_); rintro e w' ⟨vt, rfl, hT, hb3⟩))
      go_wp2
      go_ret2
      have hk : Below wb.heap.size wb w' := by first | exact Bl.call (qt_of wb _).bel hb3 | exact Bl.call (qt_drew wb).bel hb3
      exact ⟨_, _, rfl, by rw [E.out]; exact HT1.out.call hk, by rw [E.out]; exact hT, Bl.call hb2 hk⟩
    · have E : Hid (split (.node a x b) i = (around a x (split b (i - sz a - 1)).1, (split b (i - sz a - 1)).2)) := hid (by rw [split, if_neg h0, if_neg h1, if_neg h2])
      have IB := hid (ihb (i := i - sz a - 1) hpb (by omega) (by omega))
      have q := (split_sz b (i - sz a - 1)).1
      have q1 : sz a + sz (split b (i - sz a - 1)).1 ≤ 10000000 := by omega
      clear iha ihb hpa hpb c3 c4 hn'
      go_enter Try.func69, Try.ntmps69
      go_wp2_with fail
      refine (len_any HS.out).mono ?_; rintro e w' ⟨rfl, rfl⟩
      go_wp2_with fail
      refine (len_any HPA.out).mono ?_; rintro e w' ⟨rfl, rfl⟩
      go_wp2_with fail
      refine IB.out.mono ?_; rintro e wb ⟨v1, v2, rfl, hT1, hT2, hb2⟩
      have d1 : wb.cell? ⟨k, 0, none⟩ = some (.pointer pa) := cell_later hb2 c0
      have d2 : wb.cell? ⟨k, 2, none⟩ = some (.int .u64 x.1) := cell_later hb2 c2
      have d2' : wb.cell? ⟨k, 3, none⟩ = some (.int .i64 x.2) := cell_later hb2 c2'
      have HT1 := hid hT1
      have HT2 := hid hT2
      have HA2 := hid (HPA.out.call hb2)
      clear hT1 hT2 c0 c1 c2 c2'
      go_wp2_with fail
      go_region_held3 (fun w' => w'.cell? ⟨k, 0, none⟩ = some (.pointer pa) ∧ w'.cell? ⟨k, 2, none⟩ = some (.int .u64 x.1) ∧ w'.cell? ⟨k, 3, none⟩ = some (.int .i64 x.2))
        (first | go_keep | (go_split_ands; and_intros <;> (refine cell_later (by assumption) ?_; first | assumption | (rw [Qt.cell (qt_of _ _)]; assumption) | (rw [Qt.cell (qt_drew _)]; assumption))) | (refine cell_later (by assumption) ?_; first | assumption | (rw [Qt.cell (qt_of _ _)]; assumption) | (rw [Qt.cell (qt_drew _)]; assumption)))
        (first | (go_at_call 76; (with_reducible refine (around_any (HA2.out.cqt (qt_of _ _)) (HT1.out.cqt (qt_of _ _)) q1).mono ?_); rintro e w' ⟨vt, rfl, hT, hb3⟩)
               | (go_at_call 76; (with_reducible refine (around_any (HA2.out.cqt (qt_drew _)) (HT1.out.cqt (qt_drew _)) q1).mono ?_); rintro e w' ⟨vt, rfl, hT, hb3⟩))
      go_wp2
      go_ret2
      have hk : Below wb.heap.size wb w' := by first | exact Bl.call (qt_of wb _).bel hb3 | exact Bl.call (qt_drew wb).bel hb3
      exact ⟨_, _, rfl, by rw [E.out]; exact hT, by rw [E.out]; exact HT2.out.call hk, Bl.call hb2 hk⟩
end Go.Proofs.Ytbafbnkmmpaomaa

/- Contract of seq.Join. -/
namespace Go.Proofs.Ytbafbnkmmpaomaa
open Go.RowKit Sq
set_option linter.unusedVariables false
attribute [local go_sem ↓] Go.wp_at_zero Go.wp_at_succ

theorem sz_join (a b : Tr (Int × Int)) : sz (join a b) = sz a + sz b := by rw [← len_ls, ls_join, List.length_append, len_ls, len_ls]
theorem join_none {va vb : Option Addr} {a b : Tr (Int × Int)} {w : World} (ha : IsTr w w.heap.size va a) (hb : IsTr w w.heap.size vb b) (h : sz b = 0) :
    Calls Try.prog 70 #[.pointer va, .pointer vb] w (TrPost w (join a b)) := by
  have HA := hid ha
  have HB := hid hb
  have E : Hid (join a b = a) := hid (by rw [sz_zero h]; rfl)
  clear ha hb
  go_enter Try.func70, Try.ntmps70
  go_wp2_with fail
  refine (at_out (i := 0) HB.out (by omega)).mono ?_; rintro e w1 ⟨rfl, b1⟩
  go_wp2
  go_ret
  exact ⟨_, rfl, by rw [E.out]; exact (HA.out.call b1).new _, Bl.new b1 _⟩
set_option maxRecDepth 100000 in
theorem join_some {va vb : Option Addr} {a b : Tr (Int × Int)} {w : World} (ha : IsTr w w.heap.size va a) (hb : IsTr w w.heap.size vb b) (h : 0 < sz b) (hsa : sz a ≤ 1000000) (hsb : sz b ≤ 1000000) :
    Calls Try.prog 70 #[.pointer va, .pointer vb] w (TrPost w (join a b)) := by
  have HA := hid ha
  have HB := hid hb
  obtain ⟨x, hx⟩ : ∃ x, atT b 0 = some x := by
    rw [atT_ls]
    cases hl : (ls b)[0]? with
    | none => have := len_ls b; rw [List.getElem?_eq_none_iff] at hl; omega
    | some x => exact ⟨x, rfl⟩
  have HAT := at_in (i := 0) hb h (by omega)
  rw [hx] at HAT
  simp only [Option.getD_some] at HAT
  have HAT' := hid HAT
  have E : Hid (join a b = around a x (split b 1).2) := hid (by unfold join; rw [hx])
  have q := (split_sz b 1).2
  have q1 : sz a + sz (split b 1).2 ≤ 10000000 := by omega
  clear ha hb hx HAT
  go_enter Try.func70, Try.ntmps70
  go_wp2_with fail
  refine HAT'.out.mono ?_; rintro e w1 ⟨rfl, b1⟩
  obtain ⟨w2, hw2⟩ : ∃ w2, w2 = w1.alloc (.cells #[.int .u64 x.1, .int .i64 x.2] 110) := ⟨_, rfl⟩
  obtain ⟨K, hK⟩ : ∃ K, K = w1.heap.size := ⟨_, rfl⟩
  have HK := hid hK
  have B2 : Hid (Below w.heap.size w w2) := hid (by rw [hw2]; exact Bl.new b1 _)
  have HA2 : Hid (IsTr w2 w2.heap.size va a) := hid (by rw [hw2]; exact (HA.out.call b1).new _)
  have HB2 : Hid (IsTr w2 w2.heap.size vb b) := hid (by rw [hw2]; exact (HB.out.call b1).new _)
  have y0 : w2.cell? ⟨K, 0, none⟩ = some (.int .u64 x.1) := by rw [hw2, hK]; exact (Blk.new w1 _ [.int .u64 x.1, .int .i64 x.2]).cell 0
  have y1 : w2.cell? ⟨K, 1, none⟩ = some (.int .i64 x.2) := by rw [hw2, hK]; exact (Blk.new w1 _ [.int .u64 x.1, .int .i64 x.2]).cell 1
  have HW2 := hid hw2
  have B1 := hid b1
  clear hw2 hK b1
  go_wp2_with fail
  rw [← HK.out, ← HW2.out]
  refine (split_any HB2.out hsb (by omega)).mono ?_; rintro e wb ⟨v1, v2, rfl, hT1, hT2, hb2⟩
  have u0 : wb.cell? ⟨K, 0, none⟩ = some (.int .u64 x.1) := cell_later hb2 y0
  have u1 : wb.cell? ⟨K, 1, none⟩ = some (.int .i64 x.2) := cell_later hb2 y1
  have HT2 := hid hT2
  have HA3 := hid (HA2.out.call hb2)
  have B3 := hid (Bl.call B2.out hb2)
  clear y0 y1 hT1 hT2 hb2
  go_wp2_with fail
  refine (around_any HA3.out HT2.out q1).mono ?_; rintro e wc ⟨vt, rfl, hT, hb3⟩
  go_wp2
  go_ret
  exact ⟨_, rfl, by rw [E.out]; exact hT, Bl.call B3.out hb3⟩
theorem join_any {va vb : Option Addr} {a b : Tr (Int × Int)} {w : World} (ha : IsTr w w.heap.size va a) (hb : IsTr w w.heap.size vb b) (hsa : sz a ≤ 1000000) (hsb : sz b ≤ 1000000) :
    Calls Try.prog 70 #[.pointer va, .pointer vb] w (TrPost w (join a b)) := by
  rcases Nat.eq_zero_or_pos (sz b) with h | h
  · exact join_none ha hb h
  · exact join_some ha hb h hsa hsb
end Go.Proofs.Ytbafbnkmmpaomaa

/- Contract of seq.appended. -/
namespace Go.Proofs.Ytbafbnkmmpaomaa
open Go.RowKit Sq
set_option linter.unusedVariables false
attribute [local go_sem ↓] Go.wp_at_zero Go.wp_at_succ

/-- The cells of pairs. -/
def prs (l : List (Int × Int)) : List Value := l.flatMap fun e => [.int .u64 e.1, .int .i64 e.2]
theorem len_prs (l : List (Int × Int)) : (prs l).length = l.length * 2 := by
  induction l with
  | nil => rfl
  | cons e l ih => simp [prs] at ih ⊢; omega
theorem prs_app (p q : List (Int × Int)) : prs p ++ prs q = prs (p ++ q) := by simp [prs]
theorem prs_at (l : List (Int × Int)) (k : Nat) (h : k < l.length) : (prs l)[k * 2]? = some (.int .u64 l[k].1) ∧ (prs l)[k * 2 + 1]? = some (.int .i64 l[k].2) := by
  induction l generalizing k with
  | nil => simp at h
  | cons e l ih =>
    cases k with
    | zero => simp [prs]
    | succ k =>
      have := ih k (by simpa using h)
      simp only [prs, List.flatMap_cons, List.getElem_cons_succ] at this ⊢
      refine ⟨?_, ?_⟩
      · rw [show (k + 1) * 2 = k * 2 + 2 by omega, List.getElem?_append_right (by simp)]; simpa using this.1
      · rw [show (k + 1) * 2 + 1 = k * 2 + 1 + 2 by omega, List.getElem?_append_right (by simp)]; simpa using this.2
theorem prs_cell {w : World} {b o : Nat} {l : List (Int × Int)} (h : ∀ j u, (prs l)[j]? = some u → w.cell? ⟨b, o + j, none⟩ = some u) {k : Nat} (hk : k < l.length) :
    w.cell? ⟨b, o + k * 2, none⟩ = some (.int .u64 l[k].1) ∧ w.cell? ⟨b, o + k * 2 + 1, none⟩ = some (.int .i64 l[k].2) := by
  have e := prs_at l k hk
  exact ⟨h _ _ e.1, by rw [Nat.add_assoc]; exact h _ _ e.2⟩
theorem prs_one (l : List (Int × Int)) : ∀ u ∈ prs l, u.oneCell' = true := by
  intro u hu
  obtain ⟨e, _, h⟩ := List.mem_flatMap.1 hu
  simp at h
  rcases h with rfl | rfl <;> rfl
theorem Tprs : SlT 123 110 (.agg #[.int .u64 0, .int .i64 0]) 2 16 := SlT.mk Try.underlying123 (by kernel_rfl) rfl (by decide) (by decide)

/-- But for v's own block (and new ones) w' is as w was; v' is v's row, or a new one. -/
def Grw (w w' : World) (v v' : Value) : Prop := w.grownBy w' v.ownBlock ∧ (v'.ownBlock = v.ownBlock ∨ ∀ g, v'.ownBlock = some g → w.heap.size ≤ g)
theorem Grw.refl (w : World) (v : Value) : Grw w w v v := ⟨World.grownBy.refl _ _, .inl rfl⟩
theorem Grw.of_below {w w' : World} {v : Value} (h : Below w.heap.size w w') : Grw w w' v v := ⟨⟨h.os, h.tape, h.output, h.size, fun i hi _ => h.block i hi⟩, .inl rfl⟩
theorem Grw.trans {a b c : World} {v1 v2 v3 : Value} (h : Grw a b v1 v2) (h' : Grw b c v2 v3) : Grw a c v1 v3 := by
  refine ⟨⟨h'.1.os.trans h.1.os, h'.1.tape.trans h.1.tape, h'.1.output.trans h.1.output, Nat.le_trans h.1.size h'.1.size, fun i hi hne => ?_⟩, ?_⟩
  · refine (h'.1.block i (Nat.lt_of_lt_of_le hi h.1.size) ?_).trans (h.1.block i hi hne)
    rcases h.2 with e | e
    · rw [e]; exact hne
    · intro e'
      have := e i e'.symm
      omega
  · rcases h'.2 with e | e
    · rw [e]; exact h.2
    · exact .inr fun g hg => Nat.le_trans h.1.size (e g hg)
theorem Grw.below {w w' : World} {base : Nat} {e : TypeId} {sz n : Nat} {v v' : Value} {xs : List Value} (h : Grw w w' v v') (hown : w.ownsRow base e sz v n xs) (hb : base ≤ w.heap.size) : Below base w w' := grown_below hown h.1 hb
theorem Grw.blk {w w' : World} {k : Nat} {t : TypeId} {v v' : Value} {cs : List Value} (h : Grw w w' v v') (hk : Blk w k t cs) (hne : some k ≠ v.ownBlock) : Blk w' k t cs := (h.1.block k hk.lt hne).trans hk
theorem bel_cell {a b : World} {base k o : Nat} {u : Value} (hk : k < base) (hb : Below base a b) (h : a.cell? ⟨k, o, none⟩ = some u) : b.cell? ⟨k, o, none⟩ = some u := (hb.cell (p := ⟨k, o, none⟩) hk).trans h
theorem IsTr.bel {w a : World} {B : Nat} {v : Option Addr} {t : Tr (Int × Int)} (h : IsTr w B v t) (hb : Below B w a) : IsTr a B v t := h.keep (Nat.le_refl _) fun b o hlt => hb.cell (p := ⟨b, o, none⟩) hlt
theorem IsTr.alloc {w : World} {B : Nat} {v : Option Addr} {t : Tr (Int × Int)} (h : IsTr w B v t) (hB : B ≤ w.heap.size) (o : Obj) : IsTr (w.alloc o) B v t := h.bel ((Below.refl _ _).alloc hB o)
theorem base_alloc {w : World} {B : Nat} (h : B ≤ w.heap.size) (o : Obj) : B ≤ (w.alloc o).heap.size := by simp; omega
theorem own_ne {w : World} {base : Nat} {e : TypeId} {sz n : Nat} {v : Value} {xs : List Value} (h : w.ownsRow base e sz v n xs) : some w.heap.size ≠ v.ownBlock := fun e => by have := (h.lt _ e.symm).2; omega

theorem step_app {ops : Array Oper} {o : Oper} {a : Act} {K : Act → World → Prop} {Q : Exit → Act → World → Prop} {w : World} {E : Prop} (hgd : o.guard = none) (s x : Operand) {t e : TypeId} {z : Value} {sz by_ : Nat} (hT : SlT t e z sz by_) (hop : o.op = .call { callee := .builtin .append, args := #[s, x], argTypes := #[t, t] })
    {base : Nat} {v : Value} {n : Nat} {xs : List Value} (hs : a.eval s = v) (hown : w.ownsRow base e sz v n xs) {b : Nat} {e' : TypeId} {news : List Value} (hx : a.eval x = .slice (some ⟨b, 0, none⟩) 1 1) (hblk : Blk w b e' news)
    (hl : news.length = sz) (h1 : ∀ u ∈ news, u.oneCell' = true) (hb : (n + 1) * by_ ≤ 140737488355328) (hbase : base ≤ w.heap.size)
    (h : ∀ v' w', w'.ownsRow base e sz v' (n + 1) (xs ++ news) → Grw w w' v v' → Below base w w' → K (a.put o.dst v') w') : if Region.wanted o (yielded ops a.tmps) = true then Oper.wp Try.prog o a w K Q else E := by
  have hw : Region.wanted o (yielded ops a.tmps) = true := by simp [Region.wanted, hgd]
  rw [if_pos hw]
  obtain ⟨hu, ⟨i, hi, hz, hsz, hby⟩, hzs, h0, h0b⟩ := hT
  have h63 : n + 1 ≤ maxLen := by
    have : n + 1 ≤ (n + 1) * by_ := Nat.le_mul_of_pos_right _ h0b
    unfold maxLen; omega
  refine wp_append_lies w s x t hop base e i z sz by_ hu hi hz hsz hby hzs h0 v n xs hs hown ⟨b, 0, none⟩ 1 1 news hx (by omega) (fun j u hu => ?_) h1 (by omega) h63 hb hbase _ rfl ?_
  · rw [Addr.add_lit, Nat.zero_add, hblk.cell]; exact hu
  · intro g cap w' h2 h3 h4 h5
    refine h _ w' h2 ⟨h3, ?_⟩ (grown_below hown h3 hbase)
    rcases h4 with h4 | h4
    · exact .inl (by rw [h4]; rfl)
    · refine .inr fun g' hg => ?_
      have : g = g' := by simpa [Value.ownBlock] using hg
      omega

def ApPost (w : World) (v : Value) (base n : Nat) (l : List (Int × Int)) (e : Ending) (w' : World) : Prop := ∃ v', e = .returned v' ∧ w'.ownsRow base 110 2 v' n (prs l) ∧ Grw w w' v v' ∧ Below base w w'
end Go.Proofs.Ytbafbnkmmpaomaa

/- Contract of seq.List. -/
namespace Go.Proofs.Ytbafbnkmmpaomaa
open Go.RowKit Sq
set_option linter.unusedVariables false
attribute [local go_sem ↓] Go.wp_at_zero Go.wp_at_succ

/-- make([]Pair, 0, n) -/
theorem run_make_room (n : Nat) (h : n ≤ 1000000) (w : World) : ∃ X : Array Value, X.size = n * 2 ∧
    (Instr.makeSlice 123 (.int .i64 0) (.int .i64 (n : Int))).run Try.prog w = .ok (.slice (some ⟨w.heap.size, 0, none⟩) 0 n) (w.alloc (.cells X 110)) := by
  obtain ⟨hu, ⟨i, hi, hz, hsz, hby⟩, hzs, h0, h0b⟩ := Tprs
  have hr := run_make (P := Try.prog) w 123 110 i (.agg #[.int .u64 0, .int .i64 0]) hu hi hz .i64 .i64 0 n (by omega) (by omega) (by rw [hby]; omega) (by omega)
  rw [hsz] at hr
  refine ⟨madeCells (Value.agg #[Value.int IntKind.u64 0, Value.int IntKind.i64 0]).cells ((n : Int).toNat * 2), by rw [size_madeCells]; simp, hr⟩
theorem own_room (w : World) (n : Nat) (X : Array Value) (hX : X.size = n * 2) (h : n ≤ 1000000) : (w.alloc (.cells X 110)).ownsRow w.heap.size 110 2 (.slice (some ⟨w.heap.size, 0, none⟩) 0 n) 0 (prs []) :=
  ⟨rfl, .inr ⟨w.heap.size, n, _, rfl, Nat.le_refl _, Blk.new w 110 X.toList, Nat.zero_le _, by unfold maxLen; omega, by simp [hX], by simp [prs]⟩⟩

def LiPost (w : World) (t : Tr (Int × Int)) (e : Ending) (w' : World) : Prop := ∃ v, e = .returned v ∧ Sl w' w'.heap.size 2 v (sz t) (prs (ls t)) ∧ Below w.heap.size w w'
end Go.Proofs.Ytbafbnkmmpaomaa

