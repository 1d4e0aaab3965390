/- The texts MgPs, DicA, DicB, DicC, DicD, merged. No theorem here is a claim by itself. -/
import Derived.Test.YtahodfikhocobaaGreatDoorMb1
import Derived.Deep.RegionHeld3
import Derived.Deep.DrawnRows
import Derived.Deep.LoopGhost
import Derived.Deep.RegionHeldLaw
import Derived.Deep.AppendLies
/- Sequences of pairs in memory; contracts of seq.Len, seq.Height, seq.tree. -/
namespace Go.Proofs.YtahodfikhocobaaGreatDoor
open Go.RowKit Sq
set_option linter.unusedVariables false
attribute [local go_sem ↓] Go.wp_at_zero Go.wp_at_succ

def IsTr (w : World) (B : Nat) : Option Addr → Tr (Int × Int) → Prop
 | v, .nil => v = none
 | v, .node a x b => ∃ k va vb, v = some ⟨k, 0, none⟩ ∧ k < B ∧ w.cell? ⟨k, 0, none⟩ = some (.pointer va) ∧ w.cell? ⟨k, 1, none⟩ = some (.pointer vb) ∧ w.cell? ⟨k, 2, none⟩ = some (.int .u64 x.1) ∧ w.cell? ⟨k, 3, none⟩ = some (.int .i64 x.2) ∧
   w.cell? ⟨k, 4, none⟩ = some (.int .i64 (ht (.node a x b) : Nat)) ∧ w.cell? ⟨k, 5, none⟩ = some (.int .i64 (sz (.node a x b) : Nat)) ∧ IsTr w B va a ∧ IsTr w B vb b
theorem IsTr.keep {w w' : World} {B B' : Nat} {v : Option Addr} {t : Tr (Int × Int)} (h : IsTr w B v t) (hB : B ≤ B') (hk : ∀ b o, b < B → w'.cell? ⟨b, o, none⟩ = w.cell? ⟨b, o, none⟩) : IsTr w' B' v t := by
 induction t generalizing v with
 | nil => exact h
 | node a x b iha ihb =>
  obtain ⟨k, va, vb, hv, hlt, h0, h1, h2, h2', h3, h4, ha, hb⟩ := h
  exact ⟨k, va, vb, hv, by omega, (hk k 0 hlt).trans h0, (hk k 1 hlt).trans h1, (hk k 2 hlt).trans h2, (hk k 3 hlt).trans h2', (hk k 4 hlt).trans h3, (hk k 5 hlt).trans h4, iha ha, ihb hb⟩
theorem IsTr.call {w a : World} {v : Option Addr} {t : Tr (Int × Int)} (h : IsTr w w.heap.size v t) (hb : Below w.heap.size w a) : IsTr a a.heap.size v t :=
 h.keep hb.size fun b o hlt => hb.cell (p := ⟨b, o, none⟩) hlt
theorem IsTr.cqt {w a : World} {v : Option Addr} {t : Tr (Int × Int)} (h : IsTr w w.heap.size v t) (hq : Qt w a) : IsTr a a.heap.size v t := h.call hq.bel
theorem IsTr.new {w : World} {v : Option Addr} {t : Tr (Int × Int)} (h : IsTr w w.heap.size v t) (o : Obj) : IsTr (w.alloc o) (w.alloc o).heap.size v t := h.call (bel_new w o)
theorem IsTr.none_ (w : World) (B : Nat) : IsTr w B none .nil := rfl
theorem len_any {v : Option Addr} {t : Tr (Int × Int)} {B : Nat} {w : World} (h : IsTr w B v t) :
  Calls Tryz.prog 190 #[.pointer v] w fun e w' => e = .returned (.int .i64 (sz t : Nat)) ∧ w = w' := by
 cases t with
 | nil =>
  obtain rfl : v = none := h
  go_enter Tryz.func190, Tryz.ntmps190
  go_wp2
  go_ret
  exact ⟨rfl, rfl⟩
 | node a x b =>
  obtain ⟨k, va, vb, rfl, hlt, h0, h1, h2, h2', h3, h4, ha, hb⟩ := h
  clear h0 h1 h2 h2' h3 ha hb
  generalize sz (.node a x b) = n at *
  go_enter Tryz.func190, Tryz.ntmps190
  go_wp2
  go_ret
  exact ⟨rfl, rfl⟩
theorem height_any {v : Option Addr} {t : Tr (Int × Int)} {B : Nat} {w : World} (h : IsTr w B v t) :
  Calls Tryz.prog 220 #[.pointer v] w fun e w' => e = .returned (.int .i64 (ht t : Nat)) ∧ w = w' := by
 cases t with
 | nil =>
  obtain rfl : v = none := h
  go_enter Tryz.func220, Tryz.ntmps220
  go_wp2
  go_ret
  exact ⟨rfl, rfl⟩
 | node a x b =>
  obtain ⟨k, va, vb, rfl, hlt, h0, h1, h2, h2', h3, h4, ha, hb⟩ := h
  clear h0 h1 h2 h2' h4 ha hb
  generalize ht (.node a x b) = n at *
  go_enter Tryz.func220, Tryz.ntmps220
  go_wp2
  go_ret
  exact ⟨rfl, rfl⟩
def TrPost (w : World) (t : Tr (Int × Int)) (e : Ending) (w' : World) : Prop := ∃ v, e = .returned (.pointer v) ∧ IsTr w' w'.heap.size v t ∧ Below w.heap.size w w'
theorem tree_new {va vb : Option Addr} {a b : Tr (Int × Int)} {x : Int × Int} {w0 w : World} (h s : Int) (e' : TypeId) (cs : Array Value) (w' : World) (h0 : Below w0.heap.size w0 w) (hw : Qt (w.alloc (.cells cs e')) w') (ha : IsTr w w.heap.size va a) (hb : IsTr w w.heap.size vb b)
  (hh : h = (ht (.node a x b) : Nat)) (hs : s = (sz (.node a x b) : Nat)) (hcs : cs = #[.pointer va, .pointer vb, .int .u64 x.1, .int .i64 x.2, .int .i64 h, .int .i64 s]) : TrPost w0 (.node a x b) (.returned (.pointer (some ⟨w.heap.size, 0, none⟩))) w' := by
 subst hcs hh hs
 have hB := Blk.new w e' [.pointer va, .pointer vb, .int .u64 x.1, .int .i64 x.2, .int .i64 (ht (.node a x b) : Nat), .int .i64 (sz (.node a x b) : Nat)]
 have hT : IsTr (w.alloc (.cells #[.pointer va, .pointer vb, .int .u64 x.1, .int .i64 x.2, .int .i64 (ht (.node a x b) : Nat), .int .i64 (sz (.node a x b) : Nat)] e')) (w.alloc (.cells #[.pointer va, .pointer vb, .int .u64 x.1, .int .i64 x.2, .int .i64 (ht (.node a x b) : Nat), .int .i64 (sz (.node a x b) : Nat)] e')).heap.size (some ⟨w.heap.size, 0, none⟩) (.node a x b) :=
  ⟨w.heap.size, va, vb, rfl, by simp, hB.cell 0, hB.cell 1, hB.cell 2, hB.cell 3, hB.cell 4, hB.cell 5, ha.new _, hb.new _⟩
 exact ⟨_, rfl, hT.cqt hw, Bl.qt (Bl.new h0 _) hw⟩
set_option maxRecDepth 100000 in
set_option maxHeartbeats 2000000 in
theorem tree_any {va vb : Option Addr} {a b : Tr (Int × Int)} {x : Int × Int} {w : World} (ha : IsTr w w.heap.size va a) (hb : IsTr w w.heap.size vb b) (hsa : sz a ≤ 1000000000) (hsb : sz b ≤ 1000000000) :
    Calls Tryz.prog 202 #[.pointer va, .agg #[.int .u64 x.1, .int .i64 x.2], .pointer vb] w (TrPost w (.node a x b)) := by
  obtain ⟨K, hK⟩ : ∃ K, K = w.heap.size := ⟨_, rfl⟩
  obtain ⟨w0, hw0⟩ : ∃ w0, w0 = w.alloc (.cells #[.int .u64 x.1, .int .i64 x.2] 228) := ⟨_, rfl⟩
  have B0 : Hid (Below w.heap.size w w0) := hid (by rw [hw0]; exact bel_new w _)
  have x0 : w0.cell? ⟨K, 0, none⟩ = some (.int .u64 x.1) := by rw [hw0, hK]; exact (Blk.new w _ [.int .u64 x.1, .int .i64 x.2]).cell 0
  have x1 : w0.cell? ⟨K, 1, none⟩ = some (.int .i64 x.2) := by rw [hw0, hK]; exact (Blk.new w _ [.int .u64 x.1, .int .i64 x.2]).cell 1
  have HW := hid hw0
  have HK := hid hK
  clear hK hw0
  have HA : Hid (IsTr w0 w0.heap.size va a) := hid (by rw [HW.out]; exact ha.new _)
  have HB : Hid (IsTr w0 w0.heap.size vb b) := hid (by rw [HW.out]; exact hb.new _)
  have ka := ht_le_sz a
  have kb := ht_le_sz b
  clear ha hb
  have hmx : Hid (ht (.node a x b) = max (ht a) (ht b) + 1) := hid rfl
  have hsz : Hid (sz (.node a x b) = sz a + 1 + sz b) := hid rfl
  rcases Nat.lt_or_ge (ht a) (ht b) with hpq | hpq
  all_goals
    go_enter Tryz.func202, Tryz.ntmps202
    go_wp2_with fail
    rw [← HK.out, ← HW.out]
    go_region_held3 (fun w' => w'.cell? ⟨K, 0, none⟩ = some (.int .u64 x.1) ∧ w'.cell? ⟨K, 1, none⟩ = some (.int .i64 x.2))
      (first | go_keep | (go_split_ands; and_intros <;> (refine cell_later (by assumption) ?_; first | assumption | (rw [Qt.cell (qt_of _ _)]; assumption) | (rw [Qt.cell (qt_drew _)]; assumption))) | (refine cell_later (by assumption) ?_; first | assumption | (rw [Qt.cell (qt_of _ _)]; assumption) | (rw [Qt.cell (qt_drew _)]; assumption)))
      (first | (go_at_call 220; (with_reducible refine (height_any (HA.out.cqt (qt_of _ _))).mono ?_); rintro e w' ⟨rfl, rfl⟩)
             | (go_at_call 220; (with_reducible refine (height_any (HA.out.cqt (qt_drew _))).mono ?_); rintro e w' ⟨rfl, rfl⟩)
             | (go_at_call 220; (with_reducible refine (height_any (HB.out.cqt (qt_of _ _))).mono ?_); rintro e w' ⟨rfl, rfl⟩)
             | (go_at_call 220; (with_reducible refine (height_any (HB.out.cqt (qt_drew _))).mono ?_); rintro e w' ⟨rfl, rfl⟩)
             | (go_at_call 190; (with_reducible refine (len_any (HA.out.cqt (qt_of _ _))).mono ?_); rintro e w' ⟨rfl, rfl⟩)
             | (go_at_call 190; (with_reducible refine (len_any (HA.out.cqt (qt_drew _))).mono ?_); rintro e w' ⟨rfl, rfl⟩)
             | (go_at_call 190; (with_reducible refine (len_any (HB.out.cqt (qt_of _ _))).mono ?_); rintro e w' ⟨rfl, rfl⟩)
             | (go_at_call 190; (with_reducible refine (len_any (HB.out.cqt (qt_drew _))).mono ?_); rintro e w' ⟨rfl, rfl⟩))
    all_goals
      go_wp2
      go_ret
      refine tree_new (w := w0) _ _ _ _ _ B0.out (by first | exact qt_drew _ | exact qt_of _ _ | exact Qt.refl _) HA.out HB.out ?_ ?_ rfl
      · rw [hmx.out, IntKind.wrap_i64]; omega
      · rw [hsz.out, IntKind.wrap_i64, IntKind.wrap_i64]; omega
end Go.Proofs.YtahodfikhocobaaGreatDoor

/- Contract of seq.turned. -/
namespace Go.Proofs.YtahodfikhocobaaGreatDoor
open Go.RowKit Sq
set_option linter.unusedVariables false
attribute [local go_sem ↓] Go.wp_at_zero Go.wp_at_succ

theorem IsTr.box {w w0 : World} {v : Option Addr} {t : Tr (Int × Int)} {o : Obj} (h : IsTr w w.heap.size v t) (hw : w0 = w.alloc o) : IsTr w0 w0.heap.size v t := by subst hw; exact h.new _
theorem height_quiet {v : Option Addr} {t : Tr (Int × Int)} {B : Nat} {w : World} {n : Nat} (h : IsTr w B v t) :
  Calls Tryz.prog 220 #[.pointer v] (w.drewN n) fun e w'' => e = .returned (.int .i64 (ht t : Nat)) ∧ ∃ m, w'' = w.drewN m :=
 quiet_eq ((height_any (h.keep (Nat.le_refl _) (fun _ _ _ => rfl))))
set_option maxRecDepth 100000 in
set_option maxHeartbeats 2000000 in
theorem turned_left1 {va vb : Option Addr} {aa ab b : Tr (Int × Int)} {ax x : Int × Int} {w : World} (ha : IsTr w w.heap.size va (.node aa ax ab)) (hb : IsTr w w.heap.size vb b) (hs : sz (.node aa ax ab) + sz b ≤ 100000000)
    (h : ht b + 1 < ht (.node aa ax ab)) (h1 : ht ab ≤ ht aa) :
    Calls Tryz.prog 221 #[.pointer va, .agg #[.int .u64 x.1, .int .i64 x.2], .pointer vb] w (TrPost w (turned (.node aa ax ab) x b)) := by
  rw [turned_l1 h h1]
  obtain ⟨K, hK⟩ : ∃ K, K = w.heap.size := ⟨_, rfl⟩
  obtain ⟨w0, hw0⟩ : ∃ w0, w0 = w.alloc (.cells #[.int .u64 x.1, .int .i64 x.2] 228) := ⟨_, rfl⟩
  have B0 : Hid (Below w.heap.size w w0) := hid (by rw [hw0]; exact bel_new w _)
  have x0 : w0.cell? ⟨K, 0, none⟩ = some (.int .u64 x.1) := by rw [hw0, hK]; exact (Blk.new w _ [.int .u64 x.1, .int .i64 x.2]).cell 0
  have x1 : w0.cell? ⟨K, 1, none⟩ = some (.int .i64 x.2) := by rw [hw0, hK]; exact (Blk.new w _ [.int .u64 x.1, .int .i64 x.2]).cell 1
  have HW := hid hw0
  have HK := hid hK
  clear hK hw0
  replace ha := ha.box HW.out
  replace hb := hb.box HW.out
  have HA := hid ha
  have HB := hid hb
  obtain ⟨k, pa, pb, rfl, hlt, c0, c1, c2, c2', c3, c4, hpa, hpb⟩ := ha
  have HPA := hid hpa
  have HPB := hid hpb
  have hsz : sz (.node aa ax ab) = sz aa + 1 + sz ab := rfl
  have hsn : Hid (sz (.node ab x b) = sz ab + 1 + sz b) := hid rfl
  have hs1 : sz aa + sz ab + sz b ≤ 100000000 := by omega
  have b1 := ht_le_sz aa
  have b2 := ht_le_sz ab
  have b3 := ht_le_sz b
  have b4 := ht_le_sz (.node aa ax ab)
  rw [hsz] at b4
  clear hb hpa hpb c3 c4 hs hsz
  have h' : (ht b : Int) + 1 < (ht (.node aa ax ab) : Int) := by omega
  have q1 : sz aa ≤ 1000000000 := by omega
  have q2 : sz ab ≤ 1000000000 := by omega
  have q3 : sz b ≤ 1000000000 := by omega
  have q4 : sz (.node ab x b) ≤ 1000000000 := by rw [hsn.out]; omega
  have h1' : (ht ab : Int) ≤ (ht aa : Int) := by omega
  go_enter Tryz.func221, Tryz.ntmps221
  go_wp2_with fail
  rw [← HK.out, ← HW.out]
  refine (height_any HA.out).mono ?_; rintro e w' ⟨rfl, rfl⟩
  go_wp2_with fail
  refine (height_any HB.out).mono ?_; rintro e w' ⟨rfl, rfl⟩
  go_wp2_with fail
  go_quiet (first | (go_at_call 220; with_reducible exact height_quiet HPA.out) | (go_at_call 220; with_reducible exact height_quiet HPB.out))
  go_wp2_with fail
  go_region_held3 (fun w' => w'.cell? ⟨k, 0, none⟩ = some (.pointer pa) ∧ w'.cell? ⟨k, 1, none⟩ = some (.pointer pb) ∧ w'.cell? ⟨k, 2, none⟩ = some (.int .u64 ax.1) ∧ w'.cell? ⟨k, 3, none⟩ = some (.int .i64 ax.2) ∧ w'.cell? ⟨K, 0, none⟩ = some (.int .u64 x.1) ∧ w'.cell? ⟨K, 1, none⟩ = some (.int .i64 x.2))
    (first | go_keep | (go_split_ands; and_intros <;> (refine cell_later (by assumption) ?_; first | assumption | (rw [Qt.cell (qt_of _ _)]; assumption) | (rw [Qt.cell (qt_drew _)]; assumption))) | (refine cell_later (by assumption) ?_; first | assumption | (rw [Qt.cell (qt_of _ _)]; assumption) | (rw [Qt.cell (qt_drew _)]; assumption)))
    (first | (go_at_call 202; (with_reducible refine (tree_any (HPB.out.cqt (qt_of _ _)) (HB.out.cqt (qt_of _ _)) q2 q3).mono ?_); rintro e w' ⟨vt, rfl, hT, hb2⟩)
           | (go_at_call 202; (with_reducible refine (tree_any ((HPA.out.cqt (qt_of _ _)).call hb2) hT q1 q4).mono ?_); rintro e w' ⟨vt2, rfl, hT2, hb3⟩))
  go_wp2
  go_ret
  exact ⟨_, rfl, hT2, (by repeat (first | exact B0.out | exact Below.refl _ _ | refine Bl.call ?_ (by assumption) | refine Bl.qt ?_ (by assumption) | refine Bl.qt ?_ (qt_drew _) | refine Bl.qt ?_ (qt_of _ _)))⟩
set_option maxRecDepth 100000 in
set_option maxHeartbeats 2000000 in
theorem turned_left2 {va vb : Option Addr} {aa ta tb b : Tr (Int × Int)} {ax tx x : Int × Int} {w : World} (ha : IsTr w w.heap.size va (.node aa ax (.node ta tx tb))) (hb : IsTr w w.heap.size vb b) (hs : sz (.node aa ax (.node ta tx tb)) + sz b ≤ 100000000)
    (h : ht b + 1 < ht (.node aa ax (.node ta tx tb))) (h1 : ¬ ht (.node ta tx tb) ≤ ht aa) :
    Calls Tryz.prog 221 #[.pointer va, .agg #[.int .u64 x.1, .int .i64 x.2], .pointer vb] w (TrPost w (turned (.node aa ax (.node ta tx tb)) x b)) := by
  rw [turned_l2 h h1]
  obtain ⟨K, hK⟩ : ∃ K, K = w.heap.size := ⟨_, rfl⟩
  obtain ⟨w0, hw0⟩ : ∃ w0, w0 = w.alloc (.cells #[.int .u64 x.1, .int .i64 x.2] 228) := ⟨_, rfl⟩
  have B0 : Hid (Below w.heap.size w w0) := hid (by rw [hw0]; exact bel_new w _)
  have x0 : w0.cell? ⟨K, 0, none⟩ = some (.int .u64 x.1) := by rw [hw0, hK]; exact (Blk.new w _ [.int .u64 x.1, .int .i64 x.2]).cell 0
  have x1 : w0.cell? ⟨K, 1, none⟩ = some (.int .i64 x.2) := by rw [hw0, hK]; exact (Blk.new w _ [.int .u64 x.1, .int .i64 x.2]).cell 1
  have HW := hid hw0
  have HK := hid hK
  clear hK hw0
  replace ha := ha.box HW.out
  replace hb := hb.box HW.out
  have HA := hid ha
  have HB := hid hb
  obtain ⟨k, pa, pb, rfl, hlt, c0, c1, c2, c2', c3, c4, hpa, hpb⟩ := ha
  have HPA := hid hpa
  have HPB := hid hpb
  obtain ⟨k', qa, qb, rfl, hlt', d0, d1, d2, d2', d3, d4, hqa, hqb⟩ := hpb
  have HQA := hid hqa
  have HQB := hid hqb
  have hsz : sz (.node aa ax (.node ta tx tb)) = sz aa + 1 + (sz ta + 1 + sz tb) := rfl
  have hsz' : sz (.node ta tx tb) = sz ta + 1 + sz tb := rfl
  have hs1 : sz aa + sz ta + sz tb + sz b ≤ 100000000 := by omega
  have q1 : sz aa ≤ 1000000000 := by omega
  have q2 : sz ta ≤ 1000000000 := by omega
  have q3 : sz tb ≤ 1000000000 := by omega
  have q4 : sz b ≤ 1000000000 := by omega
  have q5 : sz (.node aa ax ta) ≤ 1000000000 := by simp only [sz]; omega
  have q6 : sz (.node tb x b) ≤ 1000000000 := by simp only [sz]; omega
  have b1 := ht_le_sz aa
  have b2 := ht_le_sz (.node ta tx tb)
  have b3 := ht_le_sz b
  have b4 := ht_le_sz (.node aa ax (.node ta tx tb))
  rw [hsz] at b4
  rw [hsz'] at b2
  clear hb hpa hqa hqb c3 c4 d3 d4 hs hsz hsz'
  have h' : (ht b : Int) + 1 < (ht (.node aa ax (.node ta tx tb)) : Int) := by omega
  have h1' : ¬ (ht (.node ta tx tb) : Int) ≤ (ht aa : Int) := by omega
  go_enter Tryz.func221, Tryz.ntmps221
  go_wp2_with fail
  rw [← HK.out, ← HW.out]
  refine (height_any HA.out).mono ?_; rintro e w' ⟨rfl, rfl⟩
  go_wp2_with fail
  refine (height_any HB.out).mono ?_; rintro e w' ⟨rfl, rfl⟩
  go_wp2_with fail
  go_quiet (first | (go_at_call 220; with_reducible exact height_quiet HPA.out) | (go_at_call 220; with_reducible exact height_quiet HPB.out))
  go_wp2_with fail
  go_region_held3 (fun w' => w'.cell? ⟨k, 0, none⟩ = some (.pointer pa) ∧ w'.cell? ⟨k, 2, none⟩ = some (.int .u64 ax.1) ∧ w'.cell? ⟨k, 3, none⟩ = some (.int .i64 ax.2) ∧ w'.cell? ⟨k', 0, none⟩ = some (.pointer qa) ∧ w'.cell? ⟨k', 1, none⟩ = some (.pointer qb) ∧ w'.cell? ⟨k', 2, none⟩ = some (.int .u64 tx.1) ∧ w'.cell? ⟨k', 3, none⟩ = some (.int .i64 tx.2) ∧ w'.cell? ⟨K, 0, none⟩ = some (.int .u64 x.1) ∧ w'.cell? ⟨K, 1, none⟩ = some (.int .i64 x.2))
    (first | go_keep | (go_split_ands; and_intros <;> (refine cell_later (by assumption) ?_; first | assumption | (rw [Qt.cell (qt_of _ _)]; assumption) | (rw [Qt.cell (qt_drew _)]; assumption))) | (refine cell_later (by assumption) ?_; first | assumption | (rw [Qt.cell (qt_of _ _)]; assumption) | (rw [Qt.cell (qt_drew _)]; assumption)))
    (first | (go_at_call 202; (with_reducible refine (tree_any (HPA.out.cqt (qt_of _ _)) (HQA.out.cqt (qt_of _ _)) q1 q2).mono ?_); rintro e w' ⟨vt, rfl, hT, hb2⟩)
           | (go_at_call 202; (with_reducible refine (tree_any ((HQB.out.cqt (qt_of _ _)).call hb2) ((HB.out.cqt (qt_of _ _)).call hb2) q3 q4).mono ?_); rintro e w' ⟨vt2, rfl, hT2, hb3⟩)
           | (go_at_call 202; (with_reducible refine (tree_any (hT.call hb3) hT2 q5 q6).mono ?_); rintro e w' ⟨vt3, rfl, hT3, hb4⟩))
  go_wp2
  go_ret
  exact ⟨_, rfl, hT3, (by repeat (first | exact B0.out | exact Below.refl _ _ | refine Bl.call ?_ (by assumption) | refine Bl.qt ?_ (by assumption) | refine Bl.qt ?_ (qt_drew _) | refine Bl.qt ?_ (qt_of _ _)))⟩

set_option maxRecDepth 100000 in
set_option maxHeartbeats 2000000 in
theorem turned_right1 {va vb : Option Addr} {a ba bb : Tr (Int × Int)} {bx x : Int × Int} {w : World} (ha : IsTr w w.heap.size va a) (hb : IsTr w w.heap.size vb (.node ba bx bb)) (hs : sz a + sz (.node ba bx bb) ≤ 100000000)
    (h0 : ¬ ht (.node ba bx bb) + 1 < ht a) (h : ht a + 1 < ht (.node ba bx bb)) (h1 : ht ba ≤ ht bb) :
    Calls Tryz.prog 221 #[.pointer va, .agg #[.int .u64 x.1, .int .i64 x.2], .pointer vb] w (TrPost w (turned a x (.node ba bx bb))) := by
  rw [turned_r1 h0 h h1]
  obtain ⟨K, hK⟩ : ∃ K, K = w.heap.size := ⟨_, rfl⟩
  obtain ⟨w0, hw0⟩ : ∃ w0, w0 = w.alloc (.cells #[.int .u64 x.1, .int .i64 x.2] 228) := ⟨_, rfl⟩
  have B0 : Hid (Below w.heap.size w w0) := hid (by rw [hw0]; exact bel_new w _)
  have x0 : w0.cell? ⟨K, 0, none⟩ = some (.int .u64 x.1) := by rw [hw0, hK]; exact (Blk.new w _ [.int .u64 x.1, .int .i64 x.2]).cell 0
  have x1 : w0.cell? ⟨K, 1, none⟩ = some (.int .i64 x.2) := by rw [hw0, hK]; exact (Blk.new w _ [.int .u64 x.1, .int .i64 x.2]).cell 1
  have HW := hid hw0
  have HK := hid hK
  clear hK hw0
  replace ha := ha.box HW.out
  replace hb := hb.box HW.out
  have HA := hid ha
  have HB := hid hb
  obtain ⟨k, pa, pb, rfl, hlt, c0, c1, c2, c2', c3, c4, hpa, hpb⟩ := hb
  have HPA := hid hpa
  have HPB := hid hpb
  have hsz : sz (.node ba bx bb) = sz ba + 1 + sz bb := rfl
  have hs1 : sz a + sz ba + sz bb ≤ 100000000 := by omega
  have q1 : sz a ≤ 1000000000 := by omega
  have q2 : sz ba ≤ 1000000000 := by omega
  have q3 : sz bb ≤ 1000000000 := by omega
  have q4 : sz (.node a x ba) ≤ 1000000000 := by simp only [sz]; omega
  have b1 := ht_le_sz ba
  have b2 := ht_le_sz bb
  have b3 := ht_le_sz a
  have b4 := ht_le_sz (.node ba bx bb)
  rw [hsz] at b4
  clear ha hpa hpb c3 c4 hs hsz
  have h0' : ¬ (ht (.node ba bx bb) : Int) + 1 < (ht a : Int) := by omega
  have h' : (ht a : Int) + 1 < (ht (.node ba bx bb) : Int) := by omega
  have h1' : (ht ba : Int) ≤ (ht bb : Int) := by omega
  go_enter Tryz.func221, Tryz.ntmps221
  go_wp2_with fail
  rw [← HK.out, ← HW.out]
  refine (height_any HA.out).mono ?_; rintro e w' ⟨rfl, rfl⟩
  go_wp2_with fail
  refine (height_any HB.out).mono ?_; rintro e w' ⟨rfl, rfl⟩
  go_wp2_with fail
  refine (height_any HB.out).mono ?_; rintro e w' ⟨rfl, rfl⟩
  go_wp2_with fail
  refine (height_any HA.out).mono ?_; rintro e w' ⟨rfl, rfl⟩
  go_wp2_with fail
  go_quiet (first | (go_at_call 220; with_reducible exact height_quiet HPB.out) | (go_at_call 220; with_reducible exact height_quiet HPA.out))
  go_wp2_with fail
  go_region_held3 (fun w' => w'.cell? ⟨k, 0, none⟩ = some (.pointer pa) ∧ w'.cell? ⟨k, 1, none⟩ = some (.pointer pb) ∧ w'.cell? ⟨k, 2, none⟩ = some (.int .u64 bx.1) ∧ w'.cell? ⟨k, 3, none⟩ = some (.int .i64 bx.2) ∧ w'.cell? ⟨K, 0, none⟩ = some (.int .u64 x.1) ∧ w'.cell? ⟨K, 1, none⟩ = some (.int .i64 x.2))
    (first | go_keep | (go_split_ands; and_intros <;> (refine cell_later (by assumption) ?_; first | assumption | (rw [Qt.cell (qt_of _ _)]; assumption) | (rw [Qt.cell (qt_drew _)]; assumption))) | (refine cell_later (by assumption) ?_; first | assumption | (rw [Qt.cell (qt_of _ _)]; assumption) | (rw [Qt.cell (qt_drew _)]; assumption)))
    (first | (go_at_call 202; (with_reducible refine (tree_any (HA.out.cqt (qt_of _ _)) (HPA.out.cqt (qt_of _ _)) q1 q2).mono ?_); rintro e w' ⟨vt, rfl, hT, hb2⟩)
           | (go_at_call 202; (with_reducible refine (tree_any hT ((HPB.out.cqt (qt_of _ _)).call hb2) q4 q3).mono ?_); rintro e w' ⟨vt2, rfl, hT2, hb3⟩))
  go_wp2
  go_ret
  exact ⟨_, rfl, hT2, (by repeat (first | exact B0.out | exact Below.refl _ _ | refine Bl.call ?_ (by assumption) | refine Bl.qt ?_ (by assumption) | refine Bl.qt ?_ (qt_drew _) | refine Bl.qt ?_ (qt_of _ _)))⟩

set_option maxRecDepth 100000 in
set_option maxHeartbeats 2000000 in
theorem turned_right2 {va vb : Option Addr} {a ta tb bb : Tr (Int × Int)} {tx bx x : Int × Int} {w : World} (ha : IsTr w w.heap.size va a) (hb : IsTr w w.heap.size vb (.node (.node ta tx tb) bx bb)) (hs : sz a + sz (.node (.node ta tx tb) bx bb) ≤ 100000000)
    (h0 : ¬ ht (.node (.node ta tx tb) bx bb) + 1 < ht a) (h : ht a + 1 < ht (.node (.node ta tx tb) bx bb)) (h1 : ¬ ht (.node ta tx tb) ≤ ht bb) :
    Calls Tryz.prog 221 #[.pointer va, .agg #[.int .u64 x.1, .int .i64 x.2], .pointer vb] w (TrPost w (turned a x (.node (.node ta tx tb) bx bb))) := by
  rw [turned_r2 h0 h h1]
  obtain ⟨K, hK⟩ : ∃ K, K = w.heap.size := ⟨_, rfl⟩
  obtain ⟨w0, hw0⟩ : ∃ w0, w0 = w.alloc (.cells #[.int .u64 x.1, .int .i64 x.2] 228) := ⟨_, rfl⟩
  have B0 : Hid (Below w.heap.size w w0) := hid (by rw [hw0]; exact bel_new w _)
  have x0 : w0.cell? ⟨K, 0, none⟩ = some (.int .u64 x.1) := by rw [hw0, hK]; exact (Blk.new w _ [.int .u64 x.1, .int .i64 x.2]).cell 0
  have x1 : w0.cell? ⟨K, 1, none⟩ = some (.int .i64 x.2) := by rw [hw0, hK]; exact (Blk.new w _ [.int .u64 x.1, .int .i64 x.2]).cell 1
  have HW := hid hw0
  have HK := hid hK
  clear hK hw0
  replace ha := ha.box HW.out
  replace hb := hb.box HW.out
  have HA := hid ha
  have HB := hid hb
  obtain ⟨k, pa, pb, rfl, hlt, c0, c1, c2, c2', c3, c4, hpa, hpb⟩ := hb
  have HPA := hid hpa
  have HPB := hid hpb
  obtain ⟨k', qa, qb, rfl, hlt', d0, d1, d2, d2', d3, d4, hqa, hqb⟩ := hpa
  have HQA := hid hqa
  have HQB := hid hqb
  have hsz : sz (.node (.node ta tx tb) bx bb) = (sz ta + 1 + sz tb) + 1 + sz bb := rfl
  have hsz' : sz (.node ta tx tb) = sz ta + 1 + sz tb := rfl
  have hs1 : sz a + sz ta + sz tb + sz bb ≤ 100000000 := by omega
  have q1 : sz a ≤ 1000000000 := by omega
  have q2 : sz ta ≤ 1000000000 := by omega
  have q3 : sz tb ≤ 1000000000 := by omega
  have q4 : sz bb ≤ 1000000000 := by omega
  have q5 : sz (.node a x ta) ≤ 1000000000 := by simp only [sz]; omega
  have q6 : sz (.node tb bx bb) ≤ 1000000000 := by simp only [sz]; omega
  have b1 := ht_le_sz a
  have b2 := ht_le_sz (.node ta tx tb)
  have b3 := ht_le_sz bb
  have b4 := ht_le_sz (.node (.node ta tx tb) bx bb)
  rw [hsz] at b4
  rw [hsz'] at b2
  clear ha hpb hqa hqb c3 c4 d3 d4 hs hsz hsz'
  have h0' : ¬ (ht (.node (.node ta tx tb) bx bb) : Int) + 1 < (ht a : Int) := by omega
  have h' : (ht a : Int) + 1 < (ht (.node (.node ta tx tb) bx bb) : Int) := by omega
  have h1' : ¬ (ht (.node ta tx tb) : Int) ≤ (ht bb : Int) := by omega
  go_enter Tryz.func221, Tryz.ntmps221
  go_wp2_with fail
  rw [← HK.out, ← HW.out]
  refine (height_any HA.out).mono ?_; rintro e w' ⟨rfl, rfl⟩
  go_wp2_with fail
  refine (height_any HB.out).mono ?_; rintro e w' ⟨rfl, rfl⟩
  go_wp2_with fail
  refine (height_any HB.out).mono ?_; rintro e w' ⟨rfl, rfl⟩
  go_wp2_with fail
  refine (height_any HA.out).mono ?_; rintro e w' ⟨rfl, rfl⟩
  go_wp2_with fail
  go_quiet (first | (go_at_call 220; with_reducible exact height_quiet HPB.out) | (go_at_call 220; with_reducible exact height_quiet HPA.out))
  go_wp2_with fail
  go_region_held3 (fun w' => w'.cell? ⟨k, 1, none⟩ = some (.pointer pb) ∧ w'.cell? ⟨k, 2, none⟩ = some (.int .u64 bx.1) ∧ w'.cell? ⟨k, 3, none⟩ = some (.int .i64 bx.2) ∧ w'.cell? ⟨k', 0, none⟩ = some (.pointer qa) ∧ w'.cell? ⟨k', 1, none⟩ = some (.pointer qb) ∧ w'.cell? ⟨k', 2, none⟩ = some (.int .u64 tx.1) ∧ w'.cell? ⟨k', 3, none⟩ = some (.int .i64 tx.2) ∧ w'.cell? ⟨K, 0, none⟩ = some (.int .u64 x.1) ∧ w'.cell? ⟨K, 1, none⟩ = some (.int .i64 x.2))
    (first | go_keep | (go_split_ands; and_intros <;> (refine cell_later (by assumption) ?_; first | assumption | (rw [Qt.cell (qt_of _ _)]; assumption) | (rw [Qt.cell (qt_drew _)]; assumption))) | (refine cell_later (by assumption) ?_; first | assumption | (rw [Qt.cell (qt_of _ _)]; assumption) | (rw [Qt.cell (qt_drew _)]; assumption)))
    (first | (go_at_call 202; (with_reducible refine (tree_any (HA.out.cqt (qt_of _ _)) (HQA.out.cqt (qt_of _ _)) q1 q2).mono ?_); rintro e w' ⟨vt, rfl, hT, hb2⟩)
           | (go_at_call 202; (with_reducible refine (tree_any ((HQB.out.cqt (qt_of _ _)).call hb2) ((HPB.out.cqt (qt_of _ _)).call hb2) q3 q4).mono ?_); rintro e w' ⟨vt2, rfl, hT2, hb3⟩)
           | (go_at_call 202; (with_reducible refine (tree_any (hT.call hb3) hT2 q5 q6).mono ?_); rintro e w' ⟨vt3, rfl, hT3, hb4⟩))
  go_wp2
  go_ret
  exact ⟨_, rfl, hT3, (by repeat (first | exact B0.out | exact Below.refl _ _ | refine Bl.call ?_ (by assumption) | refine Bl.qt ?_ (by assumption) | refine Bl.qt ?_ (qt_drew _) | refine Bl.qt ?_ (qt_of _ _)))⟩

theorem turned_mid {va vb : Option Addr} {a b : Tr (Int × Int)} {x : Int × Int} {w : World} (ha : IsTr w w.heap.size va a) (hb : IsTr w w.heap.size vb b) (hs : sz a + sz b ≤ 100000000)
  (h0 : ¬ ht b + 1 < ht a) (h : ¬ ht a + 1 < ht b) :
  Calls Tryz.prog 221 #[.pointer va, .agg #[.int .u64 x.1, .int .i64 x.2], .pointer vb] w (TrPost w (turned a x b)) := by
 rw [turned_c h0 h]
 obtain ⟨K, hK⟩ : ∃ K, K = w.heap.size := ⟨_, rfl⟩
 obtain ⟨w0, hw0⟩ : ∃ w0, w0 = w.alloc (.cells #[.int .u64 x.1, .int .i64 x.2] 228) := ⟨_, rfl⟩
 have B0 : Hid (Below w.heap.size w w0) := hid (by rw [hw0]; exact bel_new w _)
 have x0 : w0.cell? ⟨K, 0, none⟩ = some (.int .u64 x.1) := by rw [hw0, hK]; exact (Blk.new w _ [.int .u64 x.1, .int .i64 x.2]).cell 0
 have x1 : w0.cell? ⟨K, 1, none⟩ = some (.int .i64 x.2) := by rw [hw0, hK]; exact (Blk.new w _ [.int .u64 x.1, .int .i64 x.2]).cell 1
 have HW := hid hw0
 have HK := hid hK
 clear hK hw0
 replace ha := ha.box HW.out
 replace hb := hb.box HW.out
 have HA := hid ha
 have HB := hid hb
 have q1 : sz a ≤ 1000000000 := by omega
 have q2 : sz b ≤ 1000000000 := by omega
 have b1 := ht_le_sz a
 have b2 := ht_le_sz b
 have h0' : ¬ (ht b : Int) + 1 < (ht a : Int) := by omega
 have h' : ¬ (ht a : Int) + 1 < (ht b : Int) := by omega
 clear ha hb
 go_enter Tryz.func221, Tryz.ntmps221
 go_wp2_with fail
 rw [← HK.out, ← HW.out]
 refine (height_any HA.out).mono ?_; rintro e w' ⟨rfl, rfl⟩
 go_wp2_with fail
 refine (height_any HB.out).mono ?_; rintro e w' ⟨rfl, rfl⟩
 go_wp2_with fail
 refine (height_any HB.out).mono ?_; rintro e w' ⟨rfl, rfl⟩
 go_wp2_with fail
 refine (height_any HA.out).mono ?_; rintro e w' ⟨rfl, rfl⟩
 go_wp2_with fail
 refine (tree_any HA.out HB.out q1 q2).mono ?_; rintro e w' ⟨vt, rfl, hT, hb2⟩
 go_wp2
 go_ret
 exact ⟨_, rfl, hT, (by repeat (first | exact B0.out | exact Below.refl _ _ | refine Bl.call ?_ (by assumption) | refine Bl.qt ?_ (by assumption) | refine Bl.qt ?_ (qt_drew _) | refine Bl.qt ?_ (qt_of _ _)))⟩
theorem turned_any {va vb : Option Addr} {a b : Tr (Int × Int)} {x : Int × Int} {w : World} (ha : IsTr w w.heap.size va a) (hb : IsTr w w.heap.size vb b) (hs : sz a + sz b ≤ 100000000) :
  Calls Tryz.prog 221 #[.pointer va, .agg #[.int .u64 x.1, .int .i64 x.2], .pointer vb] w (TrPost w (turned a x b)) := by
 by_cases h0 : ht b + 1 < ht a
 ·
  cases a with
  | nil => simp [ht] at h0
  | node aa ax ab =>
   by_cases h1 : ht ab ≤ ht aa
   · exact turned_left1 ha hb hs h0 h1
   ·
    cases ab with
    | nil => simp [ht] at h1
    | node ta tx tb => exact turned_left2 ha hb hs h0 h1
 ·
  by_cases h : ht a + 1 < ht b
  ·
   cases b with
   | nil => simp [ht] at h
   | node ba bx bb =>
    by_cases h1 : ht ba ≤ ht bb
    · exact turned_right1 ha hb hs h0 h h1
    ·
     cases ba with
     | nil => simp [ht] at h1
     | node ta tx tb => exact turned_right2 ha hb hs h0 h h1
  · exact turned_mid ha hb hs h0 h
end Go.Proofs.YtahodfikhocobaaGreatDoor

/- Contracts of seq.around, seq.At. -/
namespace Go.Proofs.YtahodfikhocobaaGreatDoor
open Go.RowKit Sq
set_option linter.unusedVariables false
attribute [local go_sem ↓] Go.wp_at_zero Go.wp_at_succ

def AroundSaid (n : Nat) : Prop := ∀ (va vb : Option Addr) (a b : Tr (Int × Int)) (x : Int × Int) (w : World), sz a + sz b = n → IsTr w w.heap.size va a → IsTr w w.heap.size vb b → sz a + sz b ≤ 10000000 →
  Calls Tryz.prog 201 #[.pointer va, .agg #[.int .u64 x.1, .int .i64 x.2], .pointer vb] w (TrPost w (around a x b))
set_option maxRecDepth 100000 in
set_option maxHeartbeats 2000000 in
theorem around_l {n : Nat} (ih : ∀ m, m < n → AroundSaid m) {va vb : Option Addr} {aa ab b : Tr (Int × Int)} {ax x : Int × Int} {w : World} (hn : sz (.node aa ax ab) + sz b = n) (ha : IsTr w w.heap.size va (.node aa ax ab)) (hb : IsTr w w.heap.size vb b)
    (hs : sz (.node aa ax ab) + sz b ≤ 10000000) (h : ht b + 1 < ht (.node aa ax ab)) :
    Calls Tryz.prog 201 #[.pointer va, .agg #[.int .u64 x.1, .int .i64 x.2], .pointer vb] w (TrPost w (around (.node aa ax ab) x b)) := by
  rw [around_left h]
  obtain ⟨K, hK⟩ : ∃ K, K = w.heap.size := ⟨_, rfl⟩
  obtain ⟨w0, hw0⟩ : ∃ w0, w0 = w.alloc (.cells #[.int .u64 x.1, .int .i64 x.2] 228) := ⟨_, rfl⟩
  have B0 : Hid (Below w.heap.size w w0) := hid (by rw [hw0]; exact bel_new w _)
  have x0 : w0.cell? ⟨K, 0, none⟩ = some (.int .u64 x.1) := by rw [hw0, hK]; exact (Blk.new w _ [.int .u64 x.1, .int .i64 x.2]).cell 0
  have x1 : w0.cell? ⟨K, 1, none⟩ = some (.int .i64 x.2) := by rw [hw0, hK]; exact (Blk.new w _ [.int .u64 x.1, .int .i64 x.2]).cell 1
  have HW := hid hw0
  have HK := hid hK
  clear hK hw0
  replace ha := ha.box HW.out
  replace hb := hb.box HW.out
  have HA := hid ha
  have HB := hid hb
  obtain ⟨k, pa, pb, rfl, hlt, c0, c1, c2, c2', c3, c4, hpa, hpb⟩ := ha
  have HPA := hid hpa
  have HPB := hid hpb
  have hsz : sz (.node aa ax ab) = sz aa + 1 + sz ab := rfl
  have IH : ∀ {va vb : Option Addr} {w : World}, IsTr w w.heap.size va ab → IsTr w w.heap.size vb b → Hid (sz ab + sz b < n) → Calls Tryz.prog 201 #[.pointer va, .agg #[.int .u64 x.1, .int .i64 x.2], .pointer vb] w (TrPost w (around ab x b)) :=
    fun {va vb w} h1 h2 h3 => ih (sz ab + sz b) h3.out va vb ab b x w rfl h1 h2 (by omega)
  have h3 : Hid (sz ab + sz b < n) := hid (by omega)
  have q1 : sz ab + sz b ≤ 10000000 := by omega
  have q2 : sz aa + sz (around ab x b) ≤ 100000000 := by rw [sz_around]; omega
  have b1 := ht_le_sz b
  have b2 := ht_le_sz (.node aa ax ab)
  rw [hsz] at b2
  have hs1 : sz aa + sz ab + sz b ≤ 10000000 := by omega
  have h' : (ht b : Int) + 1 < (ht (.node aa ax ab) : Int) := by omega
  clear hb hpa hpb c3 c4 hs hsz ih hn
  go_enter Tryz.func201, Tryz.ntmps201
  go_wp2_with fail
  rw [← HK.out, ← HW.out]
  refine (height_any HA.out).mono ?_; rintro e w' ⟨rfl, rfl⟩
  go_wp2_with fail
  refine (height_any HB.out).mono ?_; rintro e w' ⟨rfl, rfl⟩
  go_wp2_with fail
  go_region_held3 (fun w' => w'.cell? ⟨k, 0, none⟩ = some (.pointer pa) ∧ w'.cell? ⟨k, 1, none⟩ = some (.pointer pb) ∧ w'.cell? ⟨k, 2, none⟩ = some (.int .u64 ax.1) ∧ w'.cell? ⟨k, 3, none⟩ = some (.int .i64 ax.2) ∧ w'.cell? ⟨K, 0, none⟩ = some (.int .u64 x.1) ∧ w'.cell? ⟨K, 1, none⟩ = some (.int .i64 x.2))
    (first | go_keep | (go_split_ands; and_intros <;> (refine cell_later (by assumption) ?_; first | assumption | (rw [Qt.cell (qt_of _ _)]; assumption) | (rw [Qt.cell (qt_drew _)]; assumption))) | (refine cell_later (by assumption) ?_; first | assumption | (rw [Qt.cell (qt_of _ _)]; assumption) | (rw [Qt.cell (qt_drew _)]; assumption)))
    (first | (go_at_call 201; (with_reducible refine (IH (HPB.out.cqt (qt_of _ _)) (HB.out.cqt (qt_of _ _)) h3).mono ?_); rintro e w' ⟨vt, rfl, hT, hb2⟩)
           | (go_at_call 201; (with_reducible refine (IH (HPB.out.cqt (qt_drew _)) (HB.out.cqt (qt_drew _)) h3).mono ?_); rintro e w' ⟨vt, rfl, hT, hb2⟩)
           | (go_at_call 221; (with_reducible refine (turned_any ((HPA.out.cqt (qt_of _ _)).call hb2) hT q2).mono ?_); rintro e w' ⟨vt2, rfl, hT2, hb3⟩)
           | (go_at_call 221; (with_reducible refine (turned_any ((HPA.out.cqt (qt_drew _)).call hb2) hT q2).mono ?_); rintro e w' ⟨vt2, rfl, hT2, hb3⟩))
  go_wp2
  go_ret
  exact ⟨_, rfl, hT2, (by repeat (first | exact B0.out | exact Below.refl _ _ | refine Bl.call ?_ (by assumption) | refine Bl.qt ?_ (by assumption) | refine Bl.qt ?_ (qt_drew _) | refine Bl.qt ?_ (qt_of _ _)))⟩

set_option maxRecDepth 100000 in
set_option maxHeartbeats 2000000 in
theorem around_r {n : Nat} (ih : ∀ m, m < n → AroundSaid m) {va vb : Option Addr} {a ba bb : Tr (Int × Int)} {bx x : Int × Int} {w : World} (hn : sz a + sz (.node ba bx bb) = n) (ha : IsTr w w.heap.size va a) (hb : IsTr w w.heap.size vb (.node ba bx bb))
    (hs : sz a + sz (.node ba bx bb) ≤ 10000000) (h0 : ¬ ht (.node ba bx bb) + 1 < ht a) (h : ht a + 1 < ht (.node ba bx bb)) :
    Calls Tryz.prog 201 #[.pointer va, .agg #[.int .u64 x.1, .int .i64 x.2], .pointer vb] w (TrPost w (around a x (.node ba bx bb))) := by
  rw [around_right h0 h]
  obtain ⟨K, hK⟩ : ∃ K, K = w.heap.size := ⟨_, rfl⟩
  obtain ⟨w0, hw0⟩ : ∃ w0, w0 = w.alloc (.cells #[.int .u64 x.1, .int .i64 x.2] 228) := ⟨_, rfl⟩
  have B0 : Hid (Below w.heap.size w w0) := hid (by rw [hw0]; exact bel_new w _)
  have x0 : w0.cell? ⟨K, 0, none⟩ = some (.int .u64 x.1) := by rw [hw0, hK]; exact (Blk.new w _ [.int .u64 x.1, .int .i64 x.2]).cell 0
  have x1 : w0.cell? ⟨K, 1, none⟩ = some (.int .i64 x.2) := by rw [hw0, hK]; exact (Blk.new w _ [.int .u64 x.1, .int .i64 x.2]).cell 1
  have HW := hid hw0
  have HK := hid hK
  clear hK hw0
  replace ha := ha.box HW.out
  replace hb := hb.box HW.out
  have HA := hid ha
  have HB := hid hb
  obtain ⟨k, pa, pb, rfl, hlt, c0, c1, c2, c2', c3, c4, hpa, hpb⟩ := hb
  have HPA := hid hpa
  have HPB := hid hpb
  have hsz : sz (.node ba bx bb) = sz ba + 1 + sz bb := rfl
  have IH : ∀ {va vb : Option Addr} {w : World}, IsTr w w.heap.size va a → IsTr w w.heap.size vb ba → Hid (sz a + sz ba < n) → Calls Tryz.prog 201 #[.pointer va, .agg #[.int .u64 x.1, .int .i64 x.2], .pointer vb] w (TrPost w (around a x ba)) :=
    fun {va vb w} h1 h2 h3 => ih (sz a + sz ba) h3.out va vb a ba x w rfl h1 h2 (by omega)
  have h3 : Hid (sz a + sz ba < n) := hid (by omega)
  have q1 : sz a + sz ba ≤ 10000000 := by omega
  have q2 : sz (around a x ba) + sz bb ≤ 100000000 := by rw [sz_around]; omega
  have b1 := ht_le_sz a
  have b2 := ht_le_sz (.node ba bx bb)
  rw [hsz] at b2
  have hs1 : sz a + sz ba + sz bb ≤ 10000000 := by omega
  have h0' : ¬ (ht (.node ba bx bb) : Int) + 1 < (ht a : Int) := by omega
  have h' : (ht a : Int) + 1 < (ht (.node ba bx bb) : Int) := by omega
  clear ha hpa hpb c3 c4 hs hsz ih hn
  go_enter Tryz.func201, Tryz.ntmps201
  go_wp2_with fail
  rw [← HK.out, ← HW.out]
  refine (height_any HA.out).mono ?_; rintro e w' ⟨rfl, rfl⟩
  go_wp2_with fail
  refine (height_any HB.out).mono ?_; rintro e w' ⟨rfl, rfl⟩
  go_wp2_with fail
  refine (height_any HB.out).mono ?_; rintro e w' ⟨rfl, rfl⟩
  go_wp2_with fail
  refine (height_any HA.out).mono ?_; rintro e w' ⟨rfl, rfl⟩
  go_wp2_with fail
  go_region_held3 (fun w' => w'.cell? ⟨k, 0, none⟩ = some (.pointer pa) ∧ w'.cell? ⟨k, 1, none⟩ = some (.pointer pb) ∧ w'.cell? ⟨k, 2, none⟩ = some (.int .u64 bx.1) ∧ w'.cell? ⟨k, 3, none⟩ = some (.int .i64 bx.2) ∧ w'.cell? ⟨K, 0, none⟩ = some (.int .u64 x.1) ∧ w'.cell? ⟨K, 1, none⟩ = some (.int .i64 x.2))
    (first | go_keep | (go_split_ands; and_intros <;> (refine cell_later (by assumption) ?_; first | assumption | (rw [Qt.cell (qt_of _ _)]; assumption) | (rw [Qt.cell (qt_drew _)]; assumption))) | (refine cell_later (by assumption) ?_; first | assumption | (rw [Qt.cell (qt_of _ _)]; assumption) | (rw [Qt.cell (qt_drew _)]; assumption)))
    (first | (go_at_call 201; (with_reducible refine (IH (HA.out.cqt (qt_of _ _)) (HPA.out.cqt (qt_of _ _)) h3).mono ?_); rintro e w' ⟨vt, rfl, hT, hb2⟩)
           | (go_at_call 201; (with_reducible refine (IH (HA.out.cqt (qt_drew _)) (HPA.out.cqt (qt_drew _)) h3).mono ?_); rintro e w' ⟨vt, rfl, hT, hb2⟩)
           | (go_at_call 221; (with_reducible refine (turned_any hT ((HPB.out.cqt (qt_of _ _)).call hb2) q2).mono ?_); rintro e w' ⟨vt2, rfl, hT2, hb3⟩)
           | (go_at_call 221; (with_reducible refine (turned_any hT ((HPB.out.cqt (qt_drew _)).call hb2) q2).mono ?_); rintro e w' ⟨vt2, rfl, hT2, hb3⟩))
  go_wp2
  go_ret
  exact ⟨_, rfl, hT2, (by repeat (first | exact B0.out | exact Below.refl _ _ | refine Bl.call ?_ (by assumption) | refine Bl.qt ?_ (by assumption) | refine Bl.qt ?_ (qt_drew _) | refine Bl.qt ?_ (qt_of _ _)))⟩

theorem around_m {va vb : Option Addr} {a b : Tr (Int × Int)} {x : Int × Int} {w : World} (ha : IsTr w w.heap.size va a) (hb : IsTr w w.heap.size vb b) (hs : sz a + sz b ≤ 10000000) (h0 : ¬ ht b + 1 < ht a) (h : ¬ ht a + 1 < ht b) :
  Calls Tryz.prog 201 #[.pointer va, .agg #[.int .u64 x.1, .int .i64 x.2], .pointer vb] w (TrPost w (around a x b)) := by
 rw [around_mid h0 h]
 obtain ⟨K, hK⟩ : ∃ K, K = w.heap.size := ⟨_, rfl⟩
 obtain ⟨w0, hw0⟩ : ∃ w0, w0 = w.alloc (.cells #[.int .u64 x.1, .int .i64 x.2] 228) := ⟨_, rfl⟩
 have B0 : Hid (Below w.heap.size w w0) := hid (by rw [hw0]; exact bel_new w _)
 have x0 : w0.cell? ⟨K, 0, none⟩ = some (.int .u64 x.1) := by rw [hw0, hK]; exact (Blk.new w _ [.int .u64 x.1, .int .i64 x.2]).cell 0
 have x1 : w0.cell? ⟨K, 1, none⟩ = some (.int .i64 x.2) := by rw [hw0, hK]; exact (Blk.new w _ [.int .u64 x.1, .int .i64 x.2]).cell 1
 have HW := hid hw0
 have HK := hid hK
 clear hK hw0
 replace ha := ha.box HW.out
 replace hb := hb.box HW.out
 have HA := hid ha
 have HB := hid hb
 have q1 : sz a ≤ 1000000000 := by omega
 have q2 : sz b ≤ 1000000000 := by omega
 have b1 := ht_le_sz a
 have b2 := ht_le_sz b
 have h0' : ¬ (ht b : Int) + 1 < (ht a : Int) := by omega
 have h' : ¬ (ht a : Int) + 1 < (ht b : Int) := by omega
 clear ha hb
 go_enter Tryz.func201, Tryz.ntmps201
 go_wp2_with fail
 rw [← HK.out, ← HW.out]
 refine (height_any HA.out).mono ?_; rintro e w' ⟨rfl, rfl⟩
 go_wp2_with fail
 refine (height_any HB.out).mono ?_; rintro e w' ⟨rfl, rfl⟩
 go_wp2_with fail
 refine (height_any HB.out).mono ?_; rintro e w' ⟨rfl, rfl⟩
 go_wp2_with fail
 refine (height_any HA.out).mono ?_; rintro e w' ⟨rfl, rfl⟩
 go_wp2_with fail
 refine (tree_any HA.out HB.out q1 q2).mono ?_; rintro e w' ⟨vt, rfl, hT, hb2⟩
 go_wp2
 go_ret
 exact ⟨_, rfl, hT, (by repeat (first | exact B0.out | exact Below.refl _ _ | refine Bl.call ?_ (by assumption) | refine Bl.qt ?_ (by assumption) | refine Bl.qt ?_ (qt_drew _) | refine Bl.qt ?_ (qt_of _ _)))⟩
theorem around_said (n : Nat) : AroundSaid n := by
 induction n using Nat.strongRecOn with
 | _ n ih =>
  intro va vb a b x w hn ha hb hs
  by_cases h0 : ht b + 1 < ht a
  ·
   cases a with
   | nil => simp [ht] at h0
   | node aa ax ab => exact around_l ih hn ha hb hs h0
  ·
   by_cases h : ht a + 1 < ht b
   ·
    cases b with
    | nil => simp [ht] at h
    | node ba bx bb => exact around_r ih hn ha hb hs h0 h
   · exact around_m ha hb hs h0 h
theorem around_any {va vb : Option Addr} {a b : Tr (Int × Int)} {x : Int × Int} {w : World} (ha : IsTr w w.heap.size va a) (hb : IsTr w w.heap.size vb b) (hs : sz a + sz b ≤ 10000000) :
  Calls Tryz.prog 201 #[.pointer va, .agg #[.int .u64 x.1, .int .i64 x.2], .pointer vb] w (TrPost w (around a x b)) := around_said _ va vb a b x w rfl ha hb hs
def AtPost (w : World) (z : Int × Int) (ok : Bool) (e : Ending) (w' : World) : Prop := e = .returned (.tuple #[.agg #[.int .u64 z.1, .int .i64 z.2], .bool ok]) ∧ Below w.heap.size w w'
set_option maxRecDepth 100000 in
theorem at_in {v : Option Addr} {t : Tr (Int × Int)} {w : World} {i : Nat} (h : IsTr w w.heap.size v t) (hi : i < sz t) (hs : sz t ≤ 1000000000) :
  Calls Tryz.prog 163 #[.pointer v, .int .i64 i] w (AtPost w ((atT t i).getD (0, 0)) true) := by
 obtain ⟨K, hK⟩ : ∃ K, K = w.heap.size := ⟨_, rfl⟩
 obtain ⟨w0, hw0⟩ : ∃ w0, w0 = w.alloc (.cells #[.int .u64 0, .int .i64 0] 228) := ⟨_, rfl⟩
 have B0 : Hid (Below w.heap.size w w0) := hid (by rw [hw0]; exact bel_new w _)
 have hB : Blk w0 K 228 [.int .u64 0, .int .i64 0] := by rw [hw0, hK]; exact Blk.new w _ _
 have HBk := hid hB
 replace h := h.box hw0
 have H := hid h
 have HW := hid hw0
 have HK := hid hK
 clear hK hw0 hB
 have hi' : ¬ (sz t : Int) ≤ (i : Int) := by omega
 have hi0 : ¬ (i : Int) < 0 := by omega
 have hi1 : decide ((i : Int) < 0) = false := decide_eq_false hi0
 have hi2 : decide ((sz t : Int) ≤ (i : Int)) = false := decide_eq_false hi'
 have hi3 : ¬ sz t ≤ i := by omega
 have hi4 : decide (sz t ≤ i) = false := decide_eq_false hi3
 obtain ⟨r, hr⟩ : ∃ r, r = (atT t i).getD (0, 0) := ⟨_, rfl⟩
 rw [← hr]
 have HR := hid hr
 clear h hr
 go_enter Tryz.func163, Tryz.ntmps163
 go_wp2_with fail
 rw [← HK.out, ← HW.out]
 refine (len_any H.out).mono ?_; rintro e w' ⟨rfl, rfl⟩
 go_wp2_with fail
 go_loopg [0, 1] (sz t) (fun gk p i wr => ∃ (u : Tr (Int × Int)) (q : Option Addr) (j : Nat), p = .pointer q ∧ i = .int .i64 j ∧ IsTr w0 w0.heap.size q u ∧ j < sz u ∧ gk = sz u ∧ sz u ≤ 1000000000 ∧ Hid ((atT u j).getD (0, 0) = r) ∧ wr = w0)
 case atStart => exact ⟨t, v, i, rfl, rfl, H.out, hi, rfl, hs, HR.out.symm, rfl⟩
 case round =>
  obtain ⟨u, q, j, rfl, rfl, hu, hj, rfl, hsu, hat, rfl⟩ := hrel
  cases u with
  | nil => simp [sz] at hj
  | node a x b =>
   obtain ⟨k, pa, pb, rfl, hlt, c0, c1, c2, c2', c3, c4, hpa, hpb⟩ := hu
   have HPA := hid hpa
   have HPB := hid hpb
   have hat' := hat.out
   rw [atT] at hat'
   have HAT := hid hat'
   have hsz : Hid (sz (.node a x b) = sz a + 1 + sz b) := hid rfl
   have hj' := hj
   have hsu' := hsu
   rw [hsz.out] at hj' hsu'
   clear hpa hpb hat hat' c3 c4 hj hsu H HR hs
   rcases Nat.lt_trichotomy j (sz a) with hc | hc | hc
   ·
    have e1 : (j : Int) < (sz a : Int) := by omega
    go_wp2_with fail
    refine (len_any HPA.out).mono ?_; rintro e w' ⟨rfl, rfl⟩
    go_wp2
    go_roundg (sz a)
    case measure => rw [hsz.out]; omega
    case rel => exact ⟨a, pa, j, rfl, rfl, HPA.out, hc, rfl, by omega, by have := HAT.out; rwa [if_pos hc] at this, rfl⟩
   ·
    have e1 : ¬ (j : Int) < (sz a : Int) := by omega
    have e2 : ¬ (sz a : Int) < (j : Int) := by omega
    have hr' := HAT.out
    rw [if_neg (by omega), if_pos hc] at hr'
    have hr2 : x = r := by simpa using hr'
    subst hr2
    clear hr' HAT hc
    have z0 : wr.cell? ⟨K, 0, none⟩ = some (.int .u64 0) := HBk.out.cell 0
    have z1 : wr.cell? ⟨K, 1, none⟩ = some (.int .i64 0) := HBk.out.cell 1
    have f0 : wr.frozen? ⟨K, 0, none⟩ = false := HBk.out.frozen 0
    have f1 : wr.frozen? ⟨K, 1, none⟩ = false := HBk.out.frozen 1
    go_wp2_with fail
    refine (len_any HPA.out).mono ?_; rintro e w' ⟨rfl, rfl⟩
    go_wp2
    have hP := ((HBk.out.put 0 (.int .u64 x.1)).put 1 (.int .i64 x.2))
    have g0 := hP.cell 0
    have g1 := hP.cell 1
    have hBe : Below w.heap.size w ((wr.setCell ⟨K, 0, none⟩ (.int .u64 x.1)).setCell ⟨K, 1, none⟩ (.int .i64 x.2)) := (B0.out.setCell (by rw [HK.out]; exact Nat.le_refl _) _).setCell (by rw [HK.out]; exact Nat.le_refl _) _
    clear hP z0 z1 f0 f1
    generalize (wr.setCell ⟨K, 0, none⟩ (.int .u64 x.1)).setCell ⟨K, 1, none⟩ (.int .i64 x.2) = w9 at *
    exact bodyPost_ret (v := .tuple #[.agg #[.int .u64 x.1, .int .i64 x.2], .bool true]) (by simp [results, Tryz.results163, go_sem, g0, g1]) rfl ⟨rfl, hBe⟩
   ·
    have e1 : ¬ (j : Int) < (sz a : Int) := by omega
    have e2 : (sz a : Int) < (j : Int) := by omega
    have hr' := HAT.out
    rw [if_neg (by omega), if_neg (by omega)] at hr'
    have HX := hid hr'
    clear hr' HAT
    go_wp2_with fail
    refine (len_any HPA.out).mono ?_; rintro e w' ⟨rfl, rfl⟩
    go_wp2
    go_roundg (sz b)
    case measure => rw [hsz.out]; omega
    case rel => exact ⟨b, pb, j - sz a - 1, rfl, by go_num, HPB.out, by omega, rfl, by omega, HX.out, rfl⟩
set_option maxRecDepth 100000 in
theorem at_out {v : Option Addr} {t : Tr (Int × Int)} {w : World} {i : Int} (h : IsTr w w.heap.size v t) (hi : i < 0 ∨ (sz t : Int) ≤ i) :
  Calls Tryz.prog 163 #[.pointer v, .int .i64 i] w (AtPost w (0, 0) false) := by
 have H := hid (h.new (.cells #[.int .u64 0, .int .i64 0] 228))
 clear h
 by_cases h0 : i < 0
 ·
  go_enter Tryz.func163, Tryz.ntmps163
  go_wp2_with fail
  exact bodyPost_ret (v := .tuple #[.agg #[.int .u64 0, .int .i64 0], .bool false]) (by simp [results, Tryz.results163, go_sem]) rfl ⟨rfl, Bl.new (bel_new w _) _⟩
 ·
  have h1 : (sz t : Int) ≤ i := by omega
  clear hi
  go_enter Tryz.func163, Tryz.ntmps163
  go_wp2_with fail
  refine (len_any H.out).mono ?_; rintro e w' ⟨rfl, rfl⟩
  go_wp2_with fail
  exact bodyPost_ret (v := .tuple #[.agg #[.int .u64 0, .int .i64 0], .bool false]) (by simp [results, Tryz.results163, go_sem]) rfl ⟨rfl, Bl.new (bel_new w _) _⟩
end Go.Proofs.YtahodfikhocobaaGreatDoor

/- Contract of seq.Of at one pair. -/
namespace Go.Proofs.YtahodfikhocobaaGreatDoor
open Go.RowKit Sq
set_option linter.unusedVariables false
attribute [local go_sem ↓] Go.wp_at_zero Go.wp_at_succ

theorem of_nil (A : Option Addr) (c : Nat) (w : World) : Calls Tryz.prog 189 #[.slice A 0 c] w (TrPost w .nil) := by
 go_enter Tryz.func189, Tryz.ntmps189
 go_wp2
 go_ret
 exact ⟨_, rfl, rfl, Below.refl _ _⟩
set_option maxRecDepth 100000 in
theorem of_one {b : Nat} {x : Int × Int} {w : World} (h0 : w.cell? ⟨b, 0, none⟩ = some (.int .u64 x.1)) (h1 : w.cell? ⟨b, 1, none⟩ = some (.int .i64 x.2)) :
    Calls Tryz.prog 189 #[.slice (some ⟨b, 0, none⟩) 1 1] w (TrPost w (.node .nil x .nil)) := by
  have B0 : Hid (Below w.heap.size w w) := hid (Below.refl _ _)
  have i12 : IntKind.i64.wrap 1 = 1 := by decide
  have i13 : IntKind.i64.wrap ((0 : Int) + 1) = 1 := by decide
  have s0 : sz (Tr.nil : Tr (Int × Int)) ≤ 1000000000 := by decide
  go_enter Tryz.func189, Tryz.ntmps189
  go_wp2_with fail
  go_region_held3 (fun w' => w'.cell? ⟨b, 0, none⟩ = some (.int .u64 x.1) ∧ w'.cell? ⟨b, 1, none⟩ = some (.int .i64 x.2))
    (first | go_keep | (go_split_ands; and_intros <;> (refine cell_later (by assumption) ?_; first | assumption | (rw [Qt.cell (qt_of _ _)]; assumption) | (rw [Qt.cell (qt_drew _)]; assumption))) | (refine cell_later (by assumption) ?_; first | assumption | (rw [Qt.cell (qt_of _ _)]; assumption) | (rw [Qt.cell (qt_drew _)]; assumption)))
    (first | (go_at_call 189; (with_reducible refine (of_nil _ _ _).mono ?_); rintro e w2 ⟨v2, rfl, hT, hb2⟩; obtain rfl := hT)
           | (go_at_call 202; (with_reducible refine (tree_any (IsTr.none_ _ _) (IsTr.none_ _ _) s0 s0).mono ?_); rintro e w4 ⟨v4, rfl, hT4, hb4⟩))
  all_goals
    go_wp2
    go_ret
    exact ⟨_, rfl, hT4, (by repeat (first | exact B0.out | exact Below.refl _ _ | refine Bl.call ?_ (by assumption) | refine Bl.qt ?_ (by assumption) | refine Bl.qt ?_ (qt_drew _) | refine Bl.qt ?_ (qt_of _ _)))⟩
end Go.Proofs.YtahodfikhocobaaGreatDoor

/- Contracts of seq.Split, seq.Join. -/
namespace Go.Proofs.YtahodfikhocobaaGreatDoor
open Go.RowKit Sq
set_option linter.unusedVariables false
attribute [local go_sem ↓] Go.wp_at_zero Go.wp_at_succ

theorem split_sz (t : Tr (Int × Int)) (i : Int) : sz (split t i).1 ≤ sz t ∧ sz (split t i).2 ≤ sz t := by
 have := ls_split t i
 constructor
 · rw [← len_ls, this.1, ← len_ls t, List.length_take]; omega
 · rw [← len_ls, this.2, ← len_ls t, List.length_drop]; omega
def SpPost (w : World) (t : Tr (Int × Int)) (i : Int) (e : Ending) (w' : World) : Prop :=
 ∃ v1 v2, e = .returned (.tuple #[.pointer v1, .pointer v2]) ∧ IsTr w' w'.heap.size v1 (split t i).1 ∧ IsTr w' w'.heap.size v2 (split t i).2 ∧ Below w.heap.size w w'
theorem split_low {v : Option Addr} {t : Tr (Int × Int)} {i : Int} {w : World} (h : IsTr w w.heap.size v t) (hi : i ≤ 0) :
  Calls Tryz.prog 187 #[.pointer v, .int .i64 i] w (SpPost w t i) := by
 have H := hid h
 have e : split t i = (.nil, t) := by cases t with
  | nil => rfl
  | node a x b => rw [split, if_pos hi]
 have E := hid e
 clear h e
 go_enter Tryz.func187, Tryz.ntmps187
 go_wp2
 go_ret2
 exact ⟨_, _, rfl, by rw [E.out]; rfl, by rw [E.out]; exact H.out, Below.refl _ _⟩
theorem split_high {v : Option Addr} {t : Tr (Int × Int)} {i : Int} {w : World} (h : IsTr w w.heap.size v t) (hi : ¬ i ≤ 0) (hs : (sz t : Int) ≤ i) :
  Calls Tryz.prog 187 #[.pointer v, .int .i64 i] w (SpPost w t i) := by
 have H := hid h
 have e : split t i = (t, .nil) := by cases t with
  | nil => rfl
  | node a x b => rw [split, if_neg hi, if_pos hs]
 have E := hid e
 clear h e
 go_enter Tryz.func187, Tryz.ntmps187
 go_wp2_with fail
 refine (len_any H.out).mono ?_; rintro e w' ⟨rfl, rfl⟩
 go_wp2
 go_ret2
 exact ⟨_, _, rfl, by rw [E.out]; exact H.out, by rw [E.out]; rfl, Below.refl _ _⟩
set_option maxRecDepth 100000 in
set_option maxHeartbeats 2000000 in
theorem split_any {v : Option Addr} {t : Tr (Int × Int)} {i : Int} {w : World} (h : IsTr w w.heap.size v t) (hsz : sz t ≤ 1000000) (hwf : -9223372036854775808 ≤ i ∧ i ≤ 9223372036854775807) :
    Calls Tryz.prog 187 #[.pointer v, .int .i64 i] w (SpPost w t i) := by
  induction t generalizing v i w with
  | nil => 
    by_cases h0 : i ≤ 0
    · exact split_low h h0
    · exact split_high h h0 (by simp [sz]; omega)
  | node a x b iha ihb =>
    by_cases h0 : i ≤ 0
    · exact split_low h h0
    by_cases h1 : (sz (.node a x b) : Int) ≤ i
    · exact split_high h h0 h1
    have HS := hid h
    obtain ⟨k, pa, pb, rfl, hlt, c0, c1, c2, c2', c3, c4, hpa, hpb⟩ := h
    have HPA := hid hpa
    have HPB := hid hpb
    have hn : Hid (sz (.node a x b) = sz a + 1 + sz b) := hid rfl
    have hn' := hn.out
    by_cases h2 : i ≤ (sz a : Int)
    · have E : Hid (split (.node a x b) i = ((split a i).1, around (split a i).2 x b)) := hid (by rw [split, if_neg h0, if_neg h1, if_pos h2])
      have IA := hid (iha hpa (by omega) hwf)
      have q := (split_sz a i).2
      have q1 : sz (split a i).2 + sz b ≤ 10000000 := by omega
      clear iha ihb hpa hpb c3 c4 hn' 
      go_enter Tryz.func187, Tryz.ntmps187
      go_wp2_with fail
      refine (len_any HS.out).mono ?_; rintro e w' ⟨rfl, rfl⟩
      go_wp2_with fail
      refine (len_any HPA.out).mono ?_; rintro e w' ⟨rfl, rfl⟩
      go_wp2_with fail
      refine IA.out.mono ?_; rintro e wb ⟨v1, v2, rfl, hT1, hT2, hb2⟩
      have d1 : wb.cell? ⟨k, 1, none⟩ = some (.pointer pb) := cell_later hb2 c1
      have d2 : wb.cell? ⟨k, 2, none⟩ = some (.int .u64 x.1) := cell_later hb2 c2
      have d2' : wb.cell? ⟨k, 3, none⟩ = some (.int .i64 x.2) := cell_later hb2 c2'
      have HT1 := hid hT1
      have HT2 := hid hT2
      have HB2 := hid (HPB.out.call hb2)
      clear hT1 hT2 c0 c1 c2 c2'
      go_wp2_with fail
      go_region_held3 (fun w' => w'.cell? ⟨k, 1, none⟩ = some (.pointer pb) ∧ w'.cell? ⟨k, 2, none⟩ = some (.int .u64 x.1) ∧ w'.cell? ⟨k, 3, none⟩ = some (.int .i64 x.2))
        (first | go_keep | (go_split_ands; and_intros <;> (refine cell_later (by assumption) ?_; first | assumption | (rw [Qt.cell (qt_of _ _)]; assumption) | (rw [Qt.cell (qt_drew _)]; assumption))) | (refine cell_later (by assumption) ?_; first | assumption | (rw [Qt.cell (qt_of _ _)]; assumption) | (rw [Qt.cell (qt_drew _)]; assumption)))
        (first | (go_at_call 201; (with_reducible refine (around_any (HT2.out.cqt (qt_of _ _)) (HB2.out.cqt (qt_of _ _)) q1).mono ?_); rintro e w' ⟨vt, rfl, hT, hb3⟩)
               | (go_at_call 201; (with_reducible refine (around_any (HT2.out.cqt (qt_drew _)) (HB2.out.cqt (qt_drew _)) q1).mono ?_); rintro e w' ⟨vt, rfl, hT, hb3⟩))
      go_wp2
      go_ret2
      have hk : Below wb.heap.size wb w' := by first | exact Bl.call (qt_of wb _).bel hb3 | exact Bl.call (qt_drew wb).bel hb3
      exact ⟨_, _, rfl, by rw [E.out]; exact HT1.out.call hk, by rw [E.out]; exact hT, Bl.call hb2 hk⟩
    · have E : Hid (split (.node a x b) i = (around a x (split b (i - sz a - 1)).1, (split b (i - sz a - 1)).2)) := hid (by rw [split, if_neg h0, if_neg h1, if_neg h2])
      have IB := hid (ihb (i := i - sz a - 1) hpb (by omega) (by omega))
      have q := (split_sz b (i - sz a - 1)).1
      have q1 : sz a + sz (split b (i - sz a - 1)).1 ≤ 10000000 := by omega
      clear iha ihb hpa hpb c3 c4 hn'
      go_enter Tryz.func187, Tryz.ntmps187
      go_wp2_with fail
      refine (len_any HS.out).mono ?_; rintro e w' ⟨rfl, rfl⟩
      go_wp2_with fail
      refine (len_any HPA.out).mono ?_; rintro e w' ⟨rfl, rfl⟩
      go_wp2_with fail
      refine IB.out.mono ?_; rintro e wb ⟨v1, v2, rfl, hT1, hT2, hb2⟩
      have d1 : wb.cell? ⟨k, 0, none⟩ = some (.pointer pa) := cell_later hb2 c0
      have d2 : wb.cell? ⟨k, 2, none⟩ = some (.int .u64 x.1) := cell_later hb2 c2
      have d2' : wb.cell? ⟨k, 3, none⟩ = some (.int .i64 x.2) := cell_later hb2 c2'
      have HT1 := hid hT1
      have HT2 := hid hT2
      have HA2 := hid (HPA.out.call hb2)
      clear hT1 hT2 c0 c1 c2 c2'
      go_wp2_with fail
      go_region_held3 (fun w' => w'.cell? ⟨k, 0, none⟩ = some (.pointer pa) ∧ w'.cell? ⟨k, 2, none⟩ = some (.int .u64 x.1) ∧ w'.cell? ⟨k, 3, none⟩ = some (.int .i64 x.2))
        (first | go_keep | (go_split_ands; and_intros <;> (refine cell_later (by assumption) ?_; first | assumption | (rw [Qt.cell (qt_of _ _)]; assumption) | (rw [Qt.cell (qt_drew _)]; assumption))) | (refine cell_later (by assumption) ?_; first | assumption | (rw [Qt.cell (qt_of _ _)]; assumption) | (rw [Qt.cell (qt_drew _)]; assumption)))
        (first | (go_at_call 201; (with_reducible refine (around_any (HA2.out.cqt (qt_of _ _)) (HT1.out.cqt (qt_of _ _)) q1).mono ?_); rintro e w' ⟨vt, rfl, hT, hb3⟩)
               | (go_at_call 201; (with_reducible refine (around_any (HA2.out.cqt (qt_drew _)) (HT1.out.cqt (qt_drew _)) q1).mono ?_); rintro e w' ⟨vt, rfl, hT, hb3⟩))
      go_wp2
      go_ret2
      have hk : Below wb.heap.size wb w' := by first | exact Bl.call (qt_of wb _).bel hb3 | exact Bl.call (qt_drew wb).bel hb3
      exact ⟨_, _, rfl, by rw [E.out]; exact hT, by rw [E.out]; exact HT2.out.call hk, Bl.call hb2 hk⟩
end Go.Proofs.YtahodfikhocobaaGreatDoor

/- Contract of seq.Join. -/
namespace Go.Proofs.YtahodfikhocobaaGreatDoor
open Go.RowKit Sq
set_option linter.unusedVariables false
attribute [local go_sem ↓] Go.wp_at_zero Go.wp_at_succ

theorem sz_join (a b : Tr (Int × Int)) : sz (join a b) = sz a + sz b := by rw [← len_ls, ls_join, List.length_append, len_ls, len_ls]
theorem join_none {va vb : Option Addr} {a b : Tr (Int × Int)} {w : World} (ha : IsTr w w.heap.size va a) (hb : IsTr w w.heap.size vb b) (h : sz b = 0) :
  Calls Tryz.prog 188 #[.pointer va, .pointer vb] w (TrPost w (join a b)) := by
 have HA := hid ha
 have HB := hid hb
 have E : Hid (join a b = a) := hid (by rw [sz_zero h]; rfl)
 clear ha hb
 go_enter Tryz.func188, Tryz.ntmps188
 go_wp2_with fail
 refine (at_out (i := 0) HB.out (by omega)).mono ?_; rintro e w1 ⟨rfl, b1⟩
 go_wp2
 go_ret
 exact ⟨_, rfl, by rw [E.out]; exact (HA.out.call b1).new _, Bl.new b1 _⟩
set_option maxRecDepth 100000 in
theorem join_some {va vb : Option Addr} {a b : Tr (Int × Int)} {w : World} (ha : IsTr w w.heap.size va a) (hb : IsTr w w.heap.size vb b) (h : 0 < sz b) (hsa : sz a ≤ 1000000) (hsb : sz b ≤ 1000000) :
  Calls Tryz.prog 188 #[.pointer va, .pointer vb] w (TrPost w (join a b)) := by
 have HA := hid ha
 have HB := hid hb
 obtain ⟨x, hx⟩ : ∃ x, atT b 0 = some x := by
  rw [atT_ls]
  cases hl : (ls b)[0]? with
  | none => have := len_ls b; rw [List.getElem?_eq_none_iff] at hl; omega
  | some x => exact ⟨x, rfl⟩
 have HAT := at_in (i := 0) hb h (by omega)
 rw [hx] at HAT
 simp only [Option.getD_some] at HAT
 have HAT' := hid HAT
 have E : Hid (join a b = around a x (split b 1).2) := hid (by unfold join; rw [hx])
 have q := (split_sz b 1).2
 have q1 : sz a + sz (split b 1).2 ≤ 10000000 := by omega
 clear ha hb hx HAT
 go_enter Tryz.func188, Tryz.ntmps188
 go_wp2_with fail
 refine HAT'.out.mono ?_; rintro e w1 ⟨rfl, b1⟩
 obtain ⟨w2, hw2⟩ : ∃ w2, w2 = w1.alloc (.cells #[.int .u64 x.1, .int .i64 x.2] 228) := ⟨_, rfl⟩
 obtain ⟨K, hK⟩ : ∃ K, K = w1.heap.size := ⟨_, rfl⟩
 have HK := hid hK
 have B2 : Hid (Below w.heap.size w w2) := hid (by rw [hw2]; exact Bl.new b1 _)
 have HA2 : Hid (IsTr w2 w2.heap.size va a) := hid (by rw [hw2]; exact (HA.out.call b1).new _)
 have HB2 : Hid (IsTr w2 w2.heap.size vb b) := hid (by rw [hw2]; exact (HB.out.call b1).new _)
 have y0 : w2.cell? ⟨K, 0, none⟩ = some (.int .u64 x.1) := by rw [hw2, hK]; exact (Blk.new w1 _ [.int .u64 x.1, .int .i64 x.2]).cell 0
 have y1 : w2.cell? ⟨K, 1, none⟩ = some (.int .i64 x.2) := by rw [hw2, hK]; exact (Blk.new w1 _ [.int .u64 x.1, .int .i64 x.2]).cell 1
 have HW2 := hid hw2
 have B1 := hid b1
 clear hw2 hK b1
 go_wp2_with fail
 rw [← HK.out, ← HW2.out]
 refine (split_any HB2.out hsb (by omega)).mono ?_; rintro e wb ⟨v1, v2, rfl, hT1, hT2, hb2⟩
 have u0 : wb.cell? ⟨K, 0, none⟩ = some (.int .u64 x.1) := cell_later hb2 y0
 have u1 : wb.cell? ⟨K, 1, none⟩ = some (.int .i64 x.2) := cell_later hb2 y1
 have HT2 := hid hT2
 have HA3 := hid (HA2.out.call hb2)
 have B3 := hid (Bl.call B2.out hb2)
 clear y0 y1 hT1 hT2 hb2
 go_wp2_with fail
 refine (around_any HA3.out HT2.out q1).mono ?_; rintro e wc ⟨vt, rfl, hT, hb3⟩
 go_wp2
 go_ret
 exact ⟨_, rfl, by rw [E.out]; exact hT, Bl.call B3.out hb3⟩
theorem join_any {va vb : Option Addr} {a b : Tr (Int × Int)} {w : World} (ha : IsTr w w.heap.size va a) (hb : IsTr w w.heap.size vb b) (hsa : sz a ≤ 1000000) (hsb : sz b ≤ 1000000) :
  Calls Tryz.prog 188 #[.pointer va, .pointer vb] w (TrPost w (join a b)) := by
 rcases Nat.eq_zero_or_pos (sz b) with h | h
 · exact join_none ha hb h
 · exact join_some ha hb h hsa hsb
end Go.Proofs.YtahodfikhocobaaGreatDoor

/- Contract of seq.appended. -/
namespace Go.Proofs.YtahodfikhocobaaGreatDoor
open Go.RowKit Sq
set_option linter.unusedVariables false
attribute [local go_sem ↓] Go.wp_at_zero Go.wp_at_succ

def Grw (w w' : World) (v v' : Value) : Prop := w.grownBy w' v.ownBlock ∧ (v'.ownBlock = v.ownBlock ∨ ∀ g, v'.ownBlock = some g → w.heap.size ≤ g)
theorem Grw.below {w w' : World} {base : Nat} {e : TypeId} {sz n : Nat} {v v' : Value} {xs : List Value} (h : Grw w w' v v') (hown : w.ownsRow base e sz v n xs) (hb : base ≤ w.heap.size) : Below base w w' := grown_below hown h.1 hb
end Go.Proofs.YtahodfikhocobaaGreatDoor

/- Contract of seq.List. -/
namespace Go.Proofs.YtahodfikhocobaaGreatDoor
open Go.RowKit Sq
set_option linter.unusedVariables false
attribute [local go_sem ↓] Go.wp_at_zero Go.wp_at_succ

end Go.Proofs.YtahodfikhocobaaGreatDoor
namespace Go.Proofs.YtahodfikhocobaaGreatDoor
open Go.RowKit Sq
set_option linter.unusedVariables false
attribute [local go_sem ↓] Go.wp_at_zero Go.wp_at_succ
theorem cell_lt {w : World} {a : Addr} {u : Value} (h : w.cell? a = some u) : a.block < w.heap.size := World.block_lt_of_cell? w _ h
set_option maxRecDepth 100000 in
theorem pred_any {ka kb : Nat} {pt : Option Addr} {t : Tr (Int × Int)} {k : Int} {i : Nat} {w : World} (h1 : w.cell? ⟨ka, 0, none⟩ = some (.pointer pt)) (h2 : w.cell? ⟨kb, 0, none⟩ = some (.int .u64 k)) (ht : IsTr w w.heap.size pt t)
  (hi : i < (ls t).length) (hs : sz t ≤ 1000000) (b : Bool) (hb : decide (k ≤ (ls t)[i].1) = b) :
  Calls Tryz.prog 192 #[.int .i64 i, .pointer (some ⟨ka, 0, none⟩), .pointer (some ⟨kb, 0, none⟩)] w fun e w' => e = .returned (.bool b) ∧ Below w.heap.size w w' := by
 obtain ⟨x, hx⟩ : ∃ x, x = (ls t)[i] := ⟨_, rfl⟩
 have HA := at_in ht (i := i) (by rw [← len_ls]; exact hi) (by omega)
 rw [atT_ls, List.getElem?_eq_getElem hi, Option.getD_some, ← hx] at HA
 have HA' := hid HA
 rw [← hx] at hb
 have HB := hid hb
 clear HA hx hb ht
 have hl := cell_lt h2
 go_enter Tryz.func192, Tryz.ntmps192
 go_wp2_with fail
 refine HA'.out.mono ?_; rintro e w1 ⟨rfl, b1⟩
 have c2 : w1.cell? ⟨kb, 0, none⟩ = some (.int .u64 k) := cell_later b1 h2
 have c3 : (w1.alloc (.cells #[.int .u64 x.1, .int .i64 x.2] 228)).cell? ⟨kb, 0, none⟩ = some (.int .u64 k) := cell_later (bel_new _ _) c2
 clear h1 h2 c2 hl
 go_wp2_with fail
 go_ret
 exact ⟨by rw [← HB.out]; rfl, Bl.new b1 _⟩
def SearchPost (w : World) (r : Nat) (e : Ending) (w' : World) : Prop := e = .returned (.int .i64 (r : Int)) ∧ Below w.heap.size w w'
set_option maxRecDepth 100000 in
theorem search_any {ka kb : Nat} {pt : Option Addr} {t : Tr (Int × Int)} {k : Int} {w : World} (h1 : w.cell? ⟨ka, 0, none⟩ = some (.pointer pt)) (h2 : w.cell? ⟨kb, 0, none⟩ = some (.int .u64 k)) (ht : IsTr w w.heap.size pt t) (hs : sz t ≤ 1000000) (hsrt : Dc.Srt (ls t)) :
  Calls Tryz.prog 191 #[.int .i64 (sz t : Nat), .func (Fn.func 192) #[] #[.pointer (some ⟨ka, 0, none⟩), .pointer (some ⟨kb, 0, none⟩)]] w (SearchPost w (Dc.less (ls t) k)) := by
 obtain ⟨n, hn⟩ : ∃ n, n = sz t := ⟨_, rfl⟩
 obtain ⟨r, hr⟩ : ∃ r, r = Dc.less (ls t) k := ⟨_, rfl⟩
 have hrn : r ≤ n := by rw [hr, hn, ← len_ls]; exact Dc.less_le _ _
 have HN := hid hn
 have HR := hid hr
 have HT := hid ht
 have HS := hid hs
 have HP := hid hsrt
 have hn1 : n ≤ 1000000 := by rw [hn]; exact hs
 rw [← hn, ← hr]
 have H1 := hid h1
 have H2 := hid h2
 clear hn hr ht hs hsrt h1 h2
 go_enter Tryz.func191, Tryz.ntmps191
 go_wp2_with fail
 go_loopw [5, 6, 7] (fun i5 j5 _ wr => ∃ i j : Nat, i5 = .int .i64 (i : Int) ∧ j5 = .int .i64 (j : Int) ∧ i ≤ r ∧ r ≤ j ∧ j ≤ n ∧ Hid (wr.cell? ⟨ka, 0, none⟩ = some (.pointer pt)) ∧ Hid (wr.cell? ⟨kb, 0, none⟩ = some (.int .u64 k)) ∧ Hid (IsTr wr wr.heap.size pt t) ∧ Hid (Below w.heap.size w wr)) (fun i5 j5 _ _ => (intOf j5 - intOf i5).toNat)
 case atStart => exact ⟨0, n, rfl, rfl, Nat.zero_le _, hrn, Nat.le_refl _, H1, H2, HT, hid (Below.refl _ _)⟩
 case round =>
  clear H1 H2 HT
  obtain ⟨i, j, rfl, rfl, hi, hj, hjn, H1, H2, HT, HB⟩ := hrel
  by_cases hlt : i < j
  ·
   obtain ⟨h, hh⟩ : ∃ h, h = (i + j) / 2 := ⟨_, rfl⟩
   have e0 : ((i : Int) + (j : Int)) / 2 = (h : Int) := by omega
   have b0 : i ≤ h := by omega
   have b1 : h < j := by omega
   have hlen : h < (ls t).length := by rw [len_ls, ← HN.out]; omega
   have E0 := hid e0
   have i0 : (i : Int) < (j : Int) := by omega
   have hiff := Dc.less_iff HP.out k h hlen
   rw [← HR.out] at hiff
   clear hh e0
   by_cases hc : r ≤ h
   ·
    have hb : decide (k ≤ (ls t)[h].1) = true := decide_eq_true (hiff.2 hc)
    have PC := hid (pred_any H1.out H2.out HT.out hlen HS.out true hb)
    clear hb hiff
    go_wp2_with fail
    rw [E0.out]
    refine PC.out.mono ?_; rintro e w2 ⟨rfl, b2⟩
    have C1 := hid (cell_later b2 H1.out)
    have C2 := hid (cell_later b2 H2.out)
    have T2 := hid (HT.out.call b2)
    have B2 := hid (Bl.call HB.out b2)
    clear b2
    go_wp2_with fail
    go_roundw
    case rel => exact ⟨i, h, rfl, rfl, hi, hc, by omega, C1, C2, T2, B2⟩
    case measure => simp [intOf]; omega
   ·
    have hb : decide (k ≤ (ls t)[h].1) = false := decide_eq_false (fun x => hc (hiff.1 x))
    have PC := hid (pred_any H1.out H2.out HT.out hlen HS.out false hb)
    clear hb hiff
    go_wp2_with fail
    rw [E0.out]
    refine PC.out.mono ?_; rintro e w2 ⟨rfl, b2⟩
    have C1 := hid (cell_later b2 H1.out)
    have C2 := hid (cell_later b2 H2.out)
    have T2 := hid (HT.out.call b2)
    have B2 := hid (Bl.call HB.out b2)
    clear b2
    go_wp2_with fail
    go_roundw
    case rel => exact ⟨h + 1, j, by go_num, rfl, by omega, hj, by omega, C1, C2, T2, B2⟩
    case measure => simp [intOf]; omega
  ·
   have i0 : ¬ (i : Int) < (j : Int) := by omega
   have HF : Hid (i = r) := hid (by omega)
   go_wp2
   go_ret
   exact ⟨by rw [HF.out]; rfl, HB.out⟩
set_option maxRecDepth 100000 in
theorem from_any {pt : Option Addr} {t : Tr (Int × Int)} {k : Int} {w : World} (ht : IsTr w w.heap.size pt t) (hs : sz t ≤ 1000000) (hsrt : Dc.Srt (ls t)) :
  Calls Tryz.prog 164 #[.agg #[.pointer pt], .int .u64 k] w (SearchPost w (Dc.less (ls t) k)) := by
 have HT := hid ((ht.new (.cells #[.pointer pt] 195)).new (.cells #[.int .u64 k] 40))
 have HC : Hid (((w.alloc (.cells #[.pointer pt] 195)).alloc (.cells #[.int .u64 k] 40)).cell? ⟨w.heap.size, 0, none⟩ = some (.pointer pt) ∧ ((w.alloc (.cells #[.pointer pt] 195)).alloc (.cells #[.int .u64 k] 40)).cell? ⟨w.heap.size + 1, 0, none⟩ = some (.int .u64 k)) := hid
  ⟨((Blk.new w 195 [.pointer pt]).alloc _).cell 0, by simp⟩
 clear ht
 go_enter Tryz.func164, Tryz.ntmps164
 go_wp2_with fail
 refine (len_any HT.out).mono ?_; rintro e w' ⟨rfl, rfl⟩
 go_wp2_with fail
 refine (search_any HC.out.1 HC.out.2 HT.out hs hsrt).mono ?_; rintro e w1 ⟨rfl, b1⟩
 go_wp2
 go_ret
 exact ⟨rfl, Bl.call (Bl.new (bel_new w _) _) b1⟩
theorem bcell {W w1 : World} (hb : Below W.heap.size W w1) : (∀ b o, b < W.heap.size → w1.cell? ⟨b, o, none⟩ = W.cell? ⟨b, o, none⟩) ∧ (∀ b o, b < W.heap.size → w1.frozen? ⟨b, o, none⟩ = W.frozen? ⟨b, o, none⟩) :=
 ⟨fun b o h => hb.cell (p := ⟨b, o, none⟩) h, fun b o h => hb.frozen (p := ⟨b, o, none⟩) h⟩
theorem alloc_swap {w : World} {o : Obj} (o' : Obj) {K i : Nat} {u : Value} (nk : w.heap.size ≠ K) (h : (w.alloc o).cell? ⟨K, i, none⟩ = some u) : (w.alloc o').cell? ⟨K, i, none⟩ = some u := by
 have h1 := cell_lt h
 have h2 : K < w.heap.size := by simp at h1; omega
 rw [(bel_new w o).cell (p := ⟨K, i, none⟩) h2] at h
 exact cell_later (bel_new w o') h
def IsD (w : World) (pt : Option Addr) (l : List (Int × Int)) : Prop := ∃ t, IsTr w w.heap.size pt t ∧ Bal t ∧ ls t = l ∧ Dc.Srt l
theorem IsD.call {w a : World} {v : Option Addr} {l : List (Int × Int)} (h : IsD w v l) (hb : Below w.heap.size w a) : IsD a v l := by
 obtain ⟨t, h1, h2, h3, h4⟩ := h
 exact ⟨t, h1.call hb, h2, h3, h4⟩
theorem IsD.new {w : World} {v : Option Addr} {l : List (Int × Int)} (h : IsD w v l) (o : Obj) : IsD (w.alloc o) v l := h.call (bel_new w o)
theorem IsD.none_ (w : World) : IsD w none [] := ⟨.nil, rfl, trivial, rfl, List.Pairwise.nil⟩
def GetPost (w : World) (r : Option Int) (e : Ending) (w' : World) : Prop := e = .returned (.tuple #[.int .i64 (r.getD 0), .bool r.isSome]) ∧ Below w.heap.size w w'
set_option maxRecDepth 100000 in
set_option maxHeartbeats 4000000 in
theorem get_any {pt : Option Addr} {l : List (Int × Int)} {k : Int} {w : World} (h : IsD w pt l) (hl : l.length ≤ 100000) :
    Calls Tryz.prog 134 #[.agg #[.pointer pt], .int .u64 k] w (GetPost w (Dc.get l k)) := by
  obtain ⟨t, ht, -, hls, hsrt⟩ := h
  have hsz : sz t ≤ 100000 := by rw [← len_ls, hls]; exact hl
  have hlen : (ls t).length = sz t := len_ls t
  have hat := Dc.at_less hsrt k
  obtain ⟨K, hK⟩ : ∃ K, K = w.heap.size := ⟨_, rfl⟩
  obtain ⟨w0, hw0⟩ : ∃ w0, w0 = w.alloc (.cells #[.pointer pt] 195) := ⟨_, rfl⟩
  have B0 : Hid (Below w.heap.size w w0) := hid (by rw [hw0]; exact bel_new w _)
  have x0 : w0.cell? ⟨K, 0, none⟩ = some (.pointer pt) := by rw [hw0, hK]; exact (Blk.new w _ [.pointer pt]).cell 0
  have HT : Hid (IsTr w0 w0.heap.size pt t) := hid (ht.box hw0)
  have HW := hid hw0
  have HK := hid hK
  subst hls
  have HS := hid hsrt
  obtain ⟨i, hi⟩ : ∃ i, i = Dc.less (ls t) k := ⟨_, rfl⟩
  have hile : i ≤ sz t := by rw [hi, ← len_ls]; exact Dc.less_le _ _
  have FC : Hid (∀ w : World, IsTr w w.heap.size pt t → Calls Tryz.prog 164 #[.agg #[.pointer pt], .int .u64 k] w (SearchPost w i)) := hid (fun w h => by rw [hi]; exact from_any h (by omega) hsrt)
  rw [← hi] at hat
  clear hK hw0 hi ht hsrt
  rcases Nat.lt_or_ge i (sz t) with hlt | hge
  · have hlt' : i < (ls t).length := by rw [hlen]; exact hlt
    rw [List.getElem?_eq_getElem hlt', Option.bind_some] at hat
    obtain ⟨x, hx⟩ : ∃ x, x = (ls t)[i] := ⟨_, rfl⟩
    rw [← hx] at hat
    have AC : Hid (∀ w : World, IsTr w w.heap.size pt t → Calls Tryz.prog 163 #[.pointer pt, .int .i64 (i : Int)] w (AtPost w x true)) := hid (fun w h => by
      have := at_in h hlt (by omega)
      rw [atT_ls, List.getElem?_eq_getElem hlt', Option.getD_some, ← hx] at this
      exact this)
    clear hx hl hlen hsz hlt
    by_cases hk : x.1 = k
    · have hne : (x.1 != k) = false := by simp [hk]
      have HF : Hid (Dc.get (ls t) k = some x.2) := hid (by rw [hat, if_pos hk])
      clear hk hat
      go_enter Tryz.func134, Tryz.ntmps134
      go_wp2_with fail
      rw [← HK.out, ← HW.out]
      have nk0 : w0.heap.size ≠ K := World.new_ne w0 ⟨K, 0, none⟩ (u := .pointer pt) x0
      go_region_held3 (fun w' => w'.cell? ⟨K, 0, none⟩ = some (.pointer pt))
        (first | (exact alloc_swap _ nk2 (by assumption)) | (first | go_keep | (go_split_ands; and_intros <;> (first | (refine cell_later (by assumption) ?_; first | assumption | (rw [Qt.cell (qt_of _ _)]; assumption) | (rw [Qt.cell (qt_drew _)]; assumption)) | (refine cell_later (bel_new _ _) ?_; assumption))) | (refine cell_later (by assumption) ?_; first | assumption | (rw [Qt.cell (qt_of _ _)]; assumption) | (rw [Qt.cell (qt_drew _)]; assumption)) | (refine cell_later (bel_new _ _) ?_; assumption)))
        (first | (go_at_call 164; (with_reducible refine (FC.out _ (by repeat (first | exact HT.out | refine IsTr.new ?_ _ | refine IsTr.cqt ?_ (qt_drew _) | refine IsTr.cqt ?_ (qt_of _ _) | refine IsTr.call ?_ (by assumption) | refine IsTr.cqt ?_ (by assumption)))).mono ?_); rintro e w1 ⟨rfl, b1⟩; obtain ⟨hc1, hf1⟩ := bcell b1; have hz1 := b1.size; (try simp at hz1); (try (have hz1' : w0.heap.size < w1.heap.size := by omega)); have nk1 : w1.heap.size ≠ K := World.new_ne w1 ⟨K, 0, none⟩ (u := .pointer pt) (cell_later b1 (by assumption)))
               | (go_at_call 163; (with_reducible refine (AC.out _ (by repeat (first | exact HT.out | refine IsTr.new ?_ _ | refine IsTr.cqt ?_ (qt_drew _) | refine IsTr.cqt ?_ (qt_of _ _) | refine IsTr.call ?_ (by assumption) | refine IsTr.cqt ?_ (by assumption)))).mono ?_); rintro e w2 ⟨rfl, b2⟩; obtain ⟨hc2, hf2⟩ := bcell b2; have hz2 := b2.size; (try simp at hz2); (try (have hz2' : w1.heap.size < w2.heap.size := by omega)); have nk2 : w2.heap.size ≠ K := World.new_ne w2 ⟨K, 0, none⟩ (u := .pointer pt) (cell_later b2 (by assumption))))
      all_goals
        go_wp2
        go_ret2
        exact ⟨by rw [HF.out]; rfl, (by repeat (first | exact B0.out | exact Below.refl _ _ | refine Below.setCell ?_ (by have h0 := B0.out.size; simp; omega) _ | refine Bl.new ?_ _ | refine Bl.call ?_ (by assumption) | refine Bl.qt ?_ (by assumption) | refine Bl.qt ?_ (qt_drew _) | refine Bl.qt ?_ (qt_of _ _)))⟩
    · have hne : (x.1 != k) = true := by simp [hk]
      have HF : Hid (Dc.get (ls t) k = none) := hid (by rw [hat, if_neg hk])
      clear hk hat
      go_enter Tryz.func134, Tryz.ntmps134
      go_wp2_with fail
      rw [← HK.out, ← HW.out]
      have nk0 : w0.heap.size ≠ K := World.new_ne w0 ⟨K, 0, none⟩ (u := .pointer pt) x0
      go_region_held3 (fun w' => w'.cell? ⟨K, 0, none⟩ = some (.pointer pt))
        (first | (exact alloc_swap _ nk2 (by assumption)) | (first | go_keep | (go_split_ands; and_intros <;> (first | (refine cell_later (by assumption) ?_; first | assumption | (rw [Qt.cell (qt_of _ _)]; assumption) | (rw [Qt.cell (qt_drew _)]; assumption)) | (refine cell_later (bel_new _ _) ?_; assumption))) | (refine cell_later (by assumption) ?_; first | assumption | (rw [Qt.cell (qt_of _ _)]; assumption) | (rw [Qt.cell (qt_drew _)]; assumption)) | (refine cell_later (bel_new _ _) ?_; assumption)))
        (first | (go_at_call 164; (with_reducible refine (FC.out _ (by repeat (first | exact HT.out | refine IsTr.new ?_ _ | refine IsTr.cqt ?_ (qt_drew _) | refine IsTr.cqt ?_ (qt_of _ _) | refine IsTr.call ?_ (by assumption) | refine IsTr.cqt ?_ (by assumption)))).mono ?_); rintro e w1 ⟨rfl, b1⟩; obtain ⟨hc1, hf1⟩ := bcell b1; have hz1 := b1.size; (try simp at hz1); (try (have hz1' : w0.heap.size < w1.heap.size := by omega)); have nk1 : w1.heap.size ≠ K := World.new_ne w1 ⟨K, 0, none⟩ (u := .pointer pt) (cell_later b1 (by assumption)))
               | (go_at_call 163; (with_reducible refine (AC.out _ (by repeat (first | exact HT.out | refine IsTr.new ?_ _ | refine IsTr.cqt ?_ (qt_drew _) | refine IsTr.cqt ?_ (qt_of _ _) | refine IsTr.call ?_ (by assumption) | refine IsTr.cqt ?_ (by assumption)))).mono ?_); rintro e w2 ⟨rfl, b2⟩; obtain ⟨hc2, hf2⟩ := bcell b2; have hz2 := b2.size; (try simp at hz2); (try (have hz2' : w1.heap.size < w2.heap.size := by omega)); have nk2 : w2.heap.size ≠ K := World.new_ne w2 ⟨K, 0, none⟩ (u := .pointer pt) (cell_later b2 (by assumption))))
      all_goals
        go_wp2
        go_ret2
        exact ⟨by rw [HF.out]; rfl, (by repeat (first | exact B0.out | exact Below.refl _ _ | refine Below.setCell ?_ (by have h0 := B0.out.size; simp; omega) _ | refine Bl.new ?_ _ | refine Bl.call ?_ (by assumption) | refine Bl.qt ?_ (by assumption) | refine Bl.qt ?_ (qt_drew _) | refine Bl.qt ?_ (qt_of _ _)))⟩
  · have hi0 : i = sz t := by omega
    rw [List.getElem?_eq_none (by omega), Option.bind_none] at hat
    have AC : Hid (∀ w : World, IsTr w w.heap.size pt t → Calls Tryz.prog 163 #[.pointer pt, .int .i64 (i : Int)] w (AtPost w (0, 0) false)) := hid (fun w h => at_out h (.inr (by omega)))
    have HF := hid hat
    clear hl hlen hsz hat hi0
    go_enter Tryz.func134, Tryz.ntmps134
    go_wp2_with fail
    rw [← HK.out, ← HW.out]
    have nk0 : w0.heap.size ≠ K := World.new_ne w0 ⟨K, 0, none⟩ (u := .pointer pt) x0
    go_region_held3 (fun w' => w'.cell? ⟨K, 0, none⟩ = some (.pointer pt))
      (first | (exact alloc_swap _ nk2 (by assumption)) | (first | go_keep | (go_split_ands; and_intros <;> (first | (refine cell_later (by assumption) ?_; first | assumption | (rw [Qt.cell (qt_of _ _)]; assumption) | (rw [Qt.cell (qt_drew _)]; assumption)) | (refine cell_later (bel_new _ _) ?_; assumption))) | (refine cell_later (by assumption) ?_; first | assumption | (rw [Qt.cell (qt_of _ _)]; assumption) | (rw [Qt.cell (qt_drew _)]; assumption)) | (refine cell_later (bel_new _ _) ?_; assumption)))
      (first | (go_at_call 164; (with_reducible refine (FC.out _ (by repeat (first | exact HT.out | refine IsTr.new ?_ _ | refine IsTr.cqt ?_ (qt_drew _) | refine IsTr.cqt ?_ (qt_of _ _) | refine IsTr.call ?_ (by assumption) | refine IsTr.cqt ?_ (by assumption)))).mono ?_); rintro e w1 ⟨rfl, b1⟩; obtain ⟨hc1, hf1⟩ := bcell b1; have hz1 := b1.size; (try simp at hz1); (try (have hz1' : w0.heap.size < w1.heap.size := by omega)); have nk1 : w1.heap.size ≠ K := World.new_ne w1 ⟨K, 0, none⟩ (u := .pointer pt) (cell_later b1 (by assumption)))
             | (go_at_call 163; (with_reducible refine (AC.out _ (by repeat (first | exact HT.out | refine IsTr.new ?_ _ | refine IsTr.cqt ?_ (qt_drew _) | refine IsTr.cqt ?_ (qt_of _ _) | refine IsTr.call ?_ (by assumption) | refine IsTr.cqt ?_ (by assumption)))).mono ?_); rintro e w2 ⟨rfl, b2⟩; obtain ⟨hc2, hf2⟩ := bcell b2; have hz2 := b2.size; (try simp at hz2); (try (have hz2' : w1.heap.size < w2.heap.size := by omega)); have nk2 : w2.heap.size ≠ K := World.new_ne w2 ⟨K, 0, none⟩ (u := .pointer pt) (cell_later b2 (by assumption))))
    all_goals
      go_wp2
      go_ret2
      exact ⟨by rw [HF.out]; rfl, (by repeat (first | exact B0.out | exact Below.refl _ _ | refine Below.setCell ?_ (by have h0 := B0.out.size; simp; omega) _ | refine Bl.new ?_ _ | refine Bl.call ?_ (by assumption) | refine Bl.qt ?_ (by assumption) | refine Bl.qt ?_ (qt_drew _) | refine Bl.qt ?_ (qt_of _ _)))⟩

def PutPost (w : World) (l : List (Int × Int)) (e : Ending) (w' : World) : Prop := ∃ v, e = .returned (.agg #[.pointer v]) ∧ IsD w' v l ∧ Below w.heap.size w w'
theorem IsTr.other {w : World} {B K : Nat} {T : TypeId} {u : Value} {v : Option Addr} {t : Tr (Int × Int)} (h : IsTr w B v t) (hb : Blk w K T [u]) (u' : Value) : IsTr (w.setCell ⟨K, 0, none⟩ u') B v t := by
 induction t generalizing v with
 | nil => exact h
 | node a x b iha ihb =>
  obtain ⟨k, va, vb, hv, hlt, h0, h1, h2, h2', h3, h4, ha, hb'⟩ := h
  have hk : k ≠ K := by
   rintro rfl
   rw [hb.cell 1] at h1
   simp at h1
  have hc : ∀ o, (w.setCell ⟨K, 0, none⟩ u').cell? ⟨k, o, none⟩ = w.cell? ⟨k, o, none⟩ := fun o => World.cell?_of_block (w := w) (Below.heap_setCell w _ _ k hk)
  exact ⟨k, va, vb, hv, hlt, (hc 0).trans h0, (hc 1).trans h1, (hc 2).trans h2, (hc 3).trans h2', (hc 4).trans h3, (hc 5).trans h4, iha ha, ihb hb'⟩
theorem sz_single (x : Int × Int) : sz (.node .nil x .nil) ≤ 1000000 := by simp [sz]
theorem bal_single (x : Int × Int) : Bal (.node .nil x .nil) := ⟨trivial, trivial, Nat.zero_le _, Nat.zero_le _⟩
theorem put_tree {t o2 : Tr (Int × Int)} {k n : Int} {i : Nat} (hb : Bal t) (hs : Dc.Srt (ls t)) (hi : i = Dc.less (ls t) k) (hb2 : Bal o2) (ho : ls o2 = if Dc.get (ls t) k = none then (ls t).drop i else (ls t).drop (i + 1)) :
  Bal (join (split t i).1 (join (.node .nil (k, n) .nil) o2)) ∧ ls (join (split t i).1 (join (.node .nil (k, n) .nil) o2)) = Dc.put (ls t) k n := by
 refine ⟨bal_join _ _ (bal_split t i hb).1 (bal_join _ _ (bal_single _) hb2), ?_⟩
 rw [ls_join, ls_join, (ls_split t i).1, Int.toNat_natCast, ho, hi]
 simp only [ls, List.nil_append, List.cons_append]
 exact Dc.put_code hs k n
theorem split_len (t : Tr (Int × Int)) (i : Nat) : sz (split t i).2 = sz t - i := by
 rw [← len_ls, (ls_split t i).2, Int.toNat_natCast, List.length_drop, len_ls]
theorem split_at (t : Tr (Int × Int)) (i : Nat) : (ls (split t i).2)[0]? = (ls t)[i]? := by
 rw [(ls_split t i).2, Int.toNat_natCast, List.getElem?_drop, Nat.add_zero]
set_option maxRecDepth 100000 in
set_option maxHeartbeats 8000000 in
theorem put_any {pt : Option Addr} {l : List (Int × Int)} {k n : Int} {w : World} (h : IsD w pt l) (hl : l.length ≤ 100000) :
    Calls Tryz.prog 162 #[.agg #[.pointer pt], .int .u64 k, .int .i64 n] w (PutPost w (Dc.put l k n)) := by
  obtain ⟨t, ht, hbal, hls, hsrt⟩ := h
  subst hls
  have hsz : sz t ≤ 100000 := by rw [← len_ls]; exact hl
  have hlen : (ls t).length = sz t := len_ls t
  have hat := Dc.at_less hsrt k
  have hput := Dc.srt_put hsrt k n
  obtain ⟨K, hK⟩ : ∃ K, K = w.heap.size := ⟨_, rfl⟩
  obtain ⟨w0, hw0⟩ : ∃ w0, w0 = (w.alloc (.cells #[.pointer pt] 195)).alloc (.cells #[.pointer none] 195) := ⟨_, rfl⟩
  have B0 : Hid (Below w.heap.size w w0) := hid (by rw [hw0]; exact Bl.new (bel_new w _) _)
  have x0 : w0.cell? ⟨K, 0, none⟩ = some (.pointer pt) := by rw [hw0, hK]; exact ((Blk.new w _ [.pointer pt]).alloc _).cell 0
  have HR : Hid (Blk w0 (K + 1) 195 [.pointer none] ∧ w0.heap.size = K + 2) := hid (by
    have := Blk.new (w.alloc (.cells #[.pointer pt] 195)) 195 [.pointer none]
    rw [hw0, hK]; simpa using this)
  have HT : Hid (IsTr w0 w0.heap.size pt t) := hid (by rw [hw0]; exact (ht.new _).new _)
  have HW := hid hw0
  have HK := hid hK
  have HB := hid hbal
  have HP := hid hput
  have HSR := hid hsrt
  obtain ⟨i, hi⟩ : ∃ i, i = Dc.less (ls t) k := ⟨_, rfl⟩
  have hile : i ≤ sz t := by rw [hi, ← len_ls]; exact Dc.less_le _ _
  have FC : Hid (∀ w : World, IsTr w w.heap.size pt t → Calls Tryz.prog 164 #[.agg #[.pointer pt], .int .u64 k] w (SearchPost w i)) := hid (fun w h => by rw [hi]; exact from_any h (by omega) hsrt)
  have SC : Hid (∀ w : World, IsTr w w.heap.size pt t → Calls Tryz.prog 187 #[.pointer pt, .int .i64 (i : Int)] w (SpPost w t i)) := hid (fun w h => split_any h (by omega) (by omega))
  rw [← hi] at hat
  have HI := hid hi
  have hsl := split_len t i
  have hsa := split_at t i
  have hso := (ls_split t (i : Int)).2
  rw [Int.toNat_natCast] at hso
  have hb2 := (bal_split t (i : Int) hbal).2
  have hz1 := (split_sz t (i : Int)).1
  obtain ⟨o, ho⟩ : ∃ o, o = (split t (i : Int)).2 := ⟨_, rfl⟩
  rw [← ho] at hsl hsa hso hb2
  have HO := hid ho
  have HZ1 : Hid (sz (split t (i : Int)).1 ≤ 1000000) := hid (by omega)
  rcases Nat.lt_or_ge i (sz t) with hlt | hge
  · have hlt' : i < (ls t).length := by rw [hlen]; exact hlt
    rw [List.getElem?_eq_getElem hlt', Option.bind_some] at hat
    rw [List.getElem?_eq_getElem hlt'] at hsa
    obtain ⟨x, hx⟩ : ∃ x, x = (ls t)[i] := ⟨_, rfl⟩
    rw [← hx] at hat hsa
    have AC : Hid (∀ (w : World) (v : Option Addr), IsTr w w.heap.size v o → Calls Tryz.prog 163 #[.pointer v, .int .i64 0] w (AtPost w x true)) := hid (fun w v h => by
      have := at_in (i := 0) h (by omega) (by omega)
      rw [atT_ls, hsa, Option.getD_some] at this
      exact this)
    have SZ : Hid (sz o ≤ 100000) := hid (by omega)
    clear hx hsa
    by_cases hk : x.1 = k
    · have hne : (x.1 == k) = true := by simp [hk]
      have HG : Hid (Dc.get (ls t) k = some x.2) := hid (by rw [hat, if_pos hk])
      have o2z := (split_sz o 1).2
      have SZO : Hid (sz (split o 1).2 ≤ 100000) := hid (by omega)
      have FIN := hid (put_tree (n := n) HB.out HSR.out HI.out (bal_split o 1 hb2).2 (by rw [(ls_split o 1).2, hso, HG.out, if_neg (by simp)]; simp))
      clear hk hat hso hb2 hl hlen hsz hlt hsl hbal hsrt hput hi hz1 hw0 hK ht o2z ho
      go_enter Tryz.func162, Tryz.ntmps162
      go_wp2_with fail
      rw [← HK.out, ← HW.out]
      go_region_held3 (fun w' => w'.cell? ⟨K, 0, none⟩ = some (.pointer pt))
        (first | go_keep | (go_split_ands; and_intros <;> (first | (refine cell_later (by assumption) ?_; first | assumption | (rw [Qt.cell (qt_of _ _)]; assumption) | (rw [Qt.cell (qt_drew _)]; assumption)) | (refine cell_later (bel_new _ _) ?_; assumption))) | (refine cell_later (by assumption) ?_; first | assumption | (rw [Qt.cell (qt_of _ _)]; assumption) | (rw [Qt.cell (qt_drew _)]; assumption)) | (refine cell_later (bel_new _ _) ?_; assumption))
        (first | (go_at_call 164; (with_reducible refine (FC.out _ (by repeat (first | exact HT.out | refine IsTr.new ?_ _ | refine IsTr.cqt ?_ (qt_drew _) | refine IsTr.cqt ?_ (qt_of _ _) | refine IsTr.call ?_ (by assumption) | refine IsTr.cqt ?_ (by assumption)))).mono ?_); rintro e w1 ⟨rfl, b1⟩)
               | (go_at_call 187; (with_reducible refine (SC.out _ (by repeat (first | exact HT.out | refine IsTr.new ?_ _ | refine IsTr.cqt ?_ (qt_drew _) | refine IsTr.cqt ?_ (qt_of _ _) | refine IsTr.call ?_ (by assumption) | refine IsTr.cqt ?_ (by assumption)))).mono ?_); rintro e w2 ⟨v1, v2, rfl, g1, g2, b2⟩))
      have G1 := hid g1
      have G2 : Hid (IsTr w2 w2.heap.size v2 o) := hid (by rw [HO.out]; exact g2)
      have R2 : Hid (Blk w2 (K + 1) 195 [.pointer none] ∧ K + 2 ≤ w2.heap.size) := hid (by
        have hb : Below w0.heap.size w0 w2 := (by repeat (first | exact Below.refl _ _ | exact Qt.bel (qt_drew _) | exact Qt.bel (qt_of _ _) | refine Bl.call ?_ (by assumption) | refine Bl.qt ?_ (qt_drew _) | refine Bl.qt ?_ (qt_of _ _)))
        exact ⟨HR.out.1.below hb (by rw [HR.out.2]; omega), by rw [← HR.out.2]; exact hb.size⟩)
      have B2 : Hid (Below w.heap.size w w2) := hid (by repeat (first | exact B0.out | exact Below.refl _ _ | refine Below.setCell ?_ (by have h0 := B0.out.size; simp; omega) _ | refine Bl.new ?_ _ | refine Bl.call ?_ (by assumption) | refine Bl.qt ?_ (by assumption) | refine Bl.qt ?_ (qt_drew _) | refine Bl.qt ?_ (qt_of _ _)))
      clear g1 g2 b1 b2
      go_wp2_with fail
      refine (AC.out _ _ G2.out).mono ?_; rintro e w3 ⟨rfl, b3⟩
      have G13 := hid (G1.out.call b3)
      have G23 := hid (G2.out.call b3)
      have B3 := hid (Bl.call B2.out b3)
      have R3 : Hid (Blk w3 (K + 1) 195 [.pointer none] ∧ K + 2 ≤ w3.heap.size) := hid ⟨R2.out.1.below b3 (by have := R2.out.2; omega), Nat.le_trans R2.out.2 b3.size⟩
      clear b3
      go_wp2_with fail
      refine (split_any (i := 1) (G23.out.new _) (by have := SZ.out; omega) (by omega)).mono ?_; rintro e wc ⟨va, vo, rfl, ga, gb, b4⟩
      have BC := hid (Bl.call (Bl.new B3.out _) b4)
      have G1c := hid ((G13.out.new _).call b4)
      have GO := hid gb
      have RC : Hid (Blk wc (K + 1) 195 [.pointer none] ∧ K + 2 ≤ wc.heap.size) := hid ⟨(R3.out.1.alloc _).below b4 (by have := R3.out.2; simp; omega), by have := b4.size; have := R3.out.2; simp at *; omega⟩
      clear ga gb b4
      go_wp2_with fail
      obtain ⟨u1, hu1⟩ : ∃ u1, u1 = wc.alloc (.cells #[.int .u64 k, .int .i64 n] 228) := ⟨_, rfl⟩
      have U1 := hid hu1
      have y0 : u1.cell? ⟨wc.heap.size, 0, none⟩ = some (.int .u64 k) := by rw [hu1]; exact (Blk.new wc _ [.int .u64 k, .int .i64 n]).cell 0
      have y1 : u1.cell? ⟨wc.heap.size, 1, none⟩ = some (.int .i64 n) := by rw [hu1]; exact (Blk.new wc _ [.int .u64 k, .int .i64 n]).cell 1
      have OC := hid (of_one (x := (k, n)) y0 y1)
      have BU : Hid (Below w.heap.size w u1) := hid (by rw [hu1]; exact Bl.new BC.out _)
      have G1u : Hid (IsTr u1 u1.heap.size v1 (split t (i : Int)).1) := hid (by rw [hu1]; exact G1c.out.new _)
      have GOu : Hid (IsTr u1 u1.heap.size vo (split o 1).2) := hid (by rw [hu1]; exact GO.out.new _)
      have RU : Hid (Blk u1 (K + 1) 195 [.pointer none] ∧ K + 2 ≤ u1.heap.size) := hid (by rw [hu1]; exact ⟨RC.out.1.alloc _, by have := RC.out.2; simp; omega⟩)
      clear hu1 y0 y1
      rw [← U1.out]
      refine OC.out.mono ?_; rintro e w5 ⟨v5, rfl, g5, b5⟩
      have G5 := hid g5
      have G15 := hid (G1u.out.call b5)
      have GO5 := hid (GOu.out.call b5)
      have B5 := hid (Bl.call BU.out b5)
      have R5 : Hid (Blk w5 (K + 1) 195 [.pointer none] ∧ K + 2 ≤ w5.heap.size) := hid ⟨RU.out.1.below b5 (by have := RU.out.2; omega), Nat.le_trans RU.out.2 b5.size⟩
      clear g5 b5
      go_wp2_with fail
      refine (join_any G5.out GO5.out (sz_single _) (by have := SZO.out; omega)).mono ?_; rintro e w6 ⟨v6, rfl, g6, b6⟩
      have G6 := hid g6
      have G16 := hid (G15.out.call b6)
      have B6 := hid (Bl.call B5.out b6)
      have R6 : Hid (Blk w6 (K + 1) 195 [.pointer none] ∧ K + 2 ≤ w6.heap.size) := hid ⟨R5.out.1.below b6 (by have := R5.out.2; omega), Nat.le_trans R5.out.2 b6.size⟩
      clear g6 b6
      go_wp2_with fail
      refine (join_any G16.out G6.out HZ1.out (by rw [sz_join]; have := SZO.out; simp only [sz]; omega)).mono ?_; rintro e w7 ⟨v7, rfl, g7, b7⟩
      have R7 : Blk w7 (K + 1) 195 [.pointer none] := R6.out.1.below b7 (by have := R6.out.2; omega)
      have z0 : w7.cell? ⟨K + 1, 0, none⟩ = some (.pointer none) := R7.cell 0
      have z1 : w7.frozen? ⟨K + 1, 0, none⟩ = false := R7.frozen 0
      have P7 := hid (R7.put 0 (.pointer v7))
      have B7 := hid (Bl.call B6.out b7)
      have G7 := hid g7
      have E1 : Hid (Below w7.heap.size w7 w7) := hid (Below.refl _ _)
      have BF : Hid (Below (K + 1) w7 (w7.setCell ⟨K + 1, 0, none⟩ (.pointer v7))) := hid ((Below.refl (K + 1) w7).setCell (p := ⟨K + 1, 0, none⟩) (Nat.le_refl _) _)
      have R7h := hid R7
      clear R7 g7 b7
      go_wp2_with fail
      have z2 := P7.out.cell 0
      have BE : Hid (Below w.heap.size w (w7.setCell ⟨K + 1, 0, none⟩ (.pointer v7))) := hid (B7.out.setCell (by rw [HK.out]; simp) _)
      have GE : Hid (IsTr (w7.setCell ⟨K + 1, 0, none⟩ (.pointer v7)) (w7.setCell ⟨K + 1, 0, none⟩ (.pointer v7)).heap.size v7 (join (split t (i : Int)).1 (join (.node .nil (k, n) .nil) (split o 1).2))) := hid (by have := G7.out.other R7h.out (.pointer v7); simpa [World.setCell] using this)
      generalize w7.setCell ⟨K + 1, 0, none⟩ (.pointer v7) = w8 at *
      exact bodyPost_ret (v := .agg #[.pointer v7]) (by simp [results, Tryz.results162, go_sem, z2]) rfl ⟨v7, rfl, ⟨_, GE.out, FIN.out.1, FIN.out.2, HP.out⟩, BE.out⟩
    · have hne : (x.1 == k) = false := by simp [hk]
      have HG : Hid (Dc.get (ls t) k = none) := hid (by rw [hat, if_neg hk])
      have FIN := hid (put_tree (n := n) HB.out HSR.out HI.out hb2 (by rw [hso, HG.out, if_pos rfl]))
      clear hk hat hso hb2 hl hlen hsz hlt hsl hbal hsrt hput hi hz1 hw0 hK ht ho
      go_enter Tryz.func162, Tryz.ntmps162
      go_wp2_with fail
      rw [← HK.out, ← HW.out]
      go_region_held3 (fun w' => w'.cell? ⟨K, 0, none⟩ = some (.pointer pt))
        (first | go_keep | (go_split_ands; and_intros <;> (first | (refine cell_later (by assumption) ?_; first | assumption | (rw [Qt.cell (qt_of _ _)]; assumption) | (rw [Qt.cell (qt_drew _)]; assumption)) | (refine cell_later (bel_new _ _) ?_; assumption))) | (refine cell_later (by assumption) ?_; first | assumption | (rw [Qt.cell (qt_of _ _)]; assumption) | (rw [Qt.cell (qt_drew _)]; assumption)) | (refine cell_later (bel_new _ _) ?_; assumption))
        (first | (go_at_call 164; (with_reducible refine (FC.out _ (by repeat (first | exact HT.out | refine IsTr.new ?_ _ | refine IsTr.cqt ?_ (qt_drew _) | refine IsTr.cqt ?_ (qt_of _ _) | refine IsTr.call ?_ (by assumption) | refine IsTr.cqt ?_ (by assumption)))).mono ?_); rintro e w1 ⟨rfl, b1⟩)
               | (go_at_call 187; (with_reducible refine (SC.out _ (by repeat (first | exact HT.out | refine IsTr.new ?_ _ | refine IsTr.cqt ?_ (qt_drew _) | refine IsTr.cqt ?_ (qt_of _ _) | refine IsTr.call ?_ (by assumption) | refine IsTr.cqt ?_ (by assumption)))).mono ?_); rintro e w2 ⟨v1, v2, rfl, g1, g2, b2⟩))
      have G1 := hid g1
      have G2 : Hid (IsTr w2 w2.heap.size v2 o) := hid (by rw [HO.out]; exact g2)
      have R2 : Hid (Blk w2 (K + 1) 195 [.pointer none] ∧ K + 2 ≤ w2.heap.size) := hid (by
        have hb : Below w0.heap.size w0 w2 := (by repeat (first | exact Below.refl _ _ | exact Qt.bel (qt_drew _) | exact Qt.bel (qt_of _ _) | refine Bl.call ?_ (by assumption) | refine Bl.qt ?_ (qt_drew _) | refine Bl.qt ?_ (qt_of _ _)))
        exact ⟨HR.out.1.below hb (by rw [HR.out.2]; omega), by rw [← HR.out.2]; exact hb.size⟩)
      have B2 : Hid (Below w.heap.size w w2) := hid (by repeat (first | exact B0.out | exact Below.refl _ _ | refine Below.setCell ?_ (by have h0 := B0.out.size; simp; omega) _ | refine Bl.new ?_ _ | refine Bl.call ?_ (by assumption) | refine Bl.qt ?_ (by assumption) | refine Bl.qt ?_ (qt_drew _) | refine Bl.qt ?_ (qt_of _ _)))
      clear g1 g2 b1 b2
      go_wp2_with fail
      refine (AC.out _ _ G2.out).mono ?_; rintro e w3 ⟨rfl, b3⟩
      have G13 := hid (G1.out.call b3)
      have G23 := hid (G2.out.call b3)
      have B3 := hid (Bl.call B2.out b3)
      have R3 : Hid (Blk w3 (K + 1) 195 [.pointer none] ∧ K + 2 ≤ w3.heap.size) := hid ⟨R2.out.1.below b3 (by have := R2.out.2; omega), Nat.le_trans R2.out.2 b3.size⟩
      clear b3
      obtain ⟨wc, hwc⟩ : ∃ wc, wc = w3.alloc (.cells #[.int .u64 x.1, .int .i64 x.2] 228) := ⟨_, rfl⟩
      have BC : Hid (Below w.heap.size w wc) := hid (by rw [hwc]; exact Bl.new B3.out _)
      have G1c : Hid (IsTr wc wc.heap.size v1 (split t (i : Int)).1) := hid (by rw [hwc]; exact G13.out.new _)
      have GO : Hid (IsTr wc wc.heap.size v2 o) := hid (by rw [hwc]; exact G23.out.new _)
      have RC : Hid (Blk wc (K + 1) 195 [.pointer none] ∧ K + 2 ≤ wc.heap.size) := hid (by rw [hwc]; exact ⟨R3.out.1.alloc _, by have := R3.out.2; simp; omega⟩)
      have WC := hid hwc
      have WS : Hid (w3.heap.size + 1 = wc.heap.size) := hid (by rw [hwc]; simp)
      clear hwc
      go_wp2_with fail
      rw [← WC.out, WS.out]
      obtain ⟨u1, hu1⟩ : ∃ u1, u1 = wc.alloc (.cells #[.int .u64 k, .int .i64 n] 228) := ⟨_, rfl⟩
      have U1 := hid hu1
      have y0 : u1.cell? ⟨wc.heap.size, 0, none⟩ = some (.int .u64 k) := by rw [hu1]; exact (Blk.new wc _ [.int .u64 k, .int .i64 n]).cell 0
      have y1 : u1.cell? ⟨wc.heap.size, 1, none⟩ = some (.int .i64 n) := by rw [hu1]; exact (Blk.new wc _ [.int .u64 k, .int .i64 n]).cell 1
      have OC := hid (of_one (x := (k, n)) y0 y1)
      have BU : Hid (Below w.heap.size w u1) := hid (by rw [hu1]; exact Bl.new BC.out _)
      have G1u : Hid (IsTr u1 u1.heap.size v1 (split t (i : Int)).1) := hid (by rw [hu1]; exact G1c.out.new _)
      have GOu : Hid (IsTr u1 u1.heap.size v2 o) := hid (by rw [hu1]; exact GO.out.new _)
      have RU : Hid (Blk u1 (K + 1) 195 [.pointer none] ∧ K + 2 ≤ u1.heap.size) := hid (by rw [hu1]; exact ⟨RC.out.1.alloc _, by have := RC.out.2; simp; omega⟩)
      clear hu1 y0 y1
      rw [← U1.out]
      refine OC.out.mono ?_; rintro e w5 ⟨v5, rfl, g5, b5⟩
      have G5 := hid g5
      have G15 := hid (G1u.out.call b5)
      have GO5 := hid (GOu.out.call b5)
      have B5 := hid (Bl.call BU.out b5)
      have R5 : Hid (Blk w5 (K + 1) 195 [.pointer none] ∧ K + 2 ≤ w5.heap.size) := hid ⟨RU.out.1.below b5 (by have := RU.out.2; omega), Nat.le_trans RU.out.2 b5.size⟩
      clear g5 b5
      go_wp2_with fail
      refine (join_any G5.out GO5.out (sz_single _) (by have := SZ.out; omega)).mono ?_; rintro e w6 ⟨v6, rfl, g6, b6⟩
      have G6 := hid g6
      have G16 := hid (G15.out.call b6)
      have B6 := hid (Bl.call B5.out b6)
      have R6 : Hid (Blk w6 (K + 1) 195 [.pointer none] ∧ K + 2 ≤ w6.heap.size) := hid ⟨R5.out.1.below b6 (by have := R5.out.2; omega), Nat.le_trans R5.out.2 b6.size⟩
      clear g6 b6
      go_wp2_with fail
      refine (join_any G16.out G6.out HZ1.out (by rw [sz_join]; have := SZ.out; simp only [sz]; omega)).mono ?_; rintro e w7 ⟨v7, rfl, g7, b7⟩
      have R7 : Blk w7 (K + 1) 195 [.pointer none] := R6.out.1.below b7 (by have := R6.out.2; omega)
      have z0 : w7.cell? ⟨K + 1, 0, none⟩ = some (.pointer none) := R7.cell 0
      have z1 : w7.frozen? ⟨K + 1, 0, none⟩ = false := R7.frozen 0
      have P7 := hid (R7.put 0 (.pointer v7))
      have B7 := hid (Bl.call B6.out b7)
      have G7 := hid g7
      have E1 : Hid (Below w7.heap.size w7 w7) := hid (Below.refl _ _)
      have BF : Hid (Below (K + 1) w7 (w7.setCell ⟨K + 1, 0, none⟩ (.pointer v7))) := hid ((Below.refl (K + 1) w7).setCell (p := ⟨K + 1, 0, none⟩) (Nat.le_refl _) _)
      have R7h := hid R7
      clear R7 g7 b7
      go_wp2_with fail
      have z2 := P7.out.cell 0
      have BE : Hid (Below w.heap.size w (w7.setCell ⟨K + 1, 0, none⟩ (.pointer v7))) := hid (B7.out.setCell (by rw [HK.out]; simp) _)
      have GE : Hid (IsTr (w7.setCell ⟨K + 1, 0, none⟩ (.pointer v7)) (w7.setCell ⟨K + 1, 0, none⟩ (.pointer v7)).heap.size v7 (join (split t (i : Int)).1 (join (.node .nil (k, n) .nil) o))) := hid (by have := G7.out.other R7h.out (.pointer v7); simpa [World.setCell] using this)
      generalize w7.setCell ⟨K + 1, 0, none⟩ (.pointer v7) = w8 at *
      exact bodyPost_ret (v := .agg #[.pointer v7]) (by simp [results, Tryz.results162, go_sem, z2]) rfl ⟨v7, rfl, ⟨_, GE.out, FIN.out.1, FIN.out.2, HP.out⟩, BE.out⟩
  · have hi0 : i = sz t := by omega
    rw [List.getElem?_eq_none (by omega), Option.bind_none] at hat
    have AC : Hid (∀ (w : World) (v : Option Addr), IsTr w w.heap.size v o → Calls Tryz.prog 163 #[.pointer v, .int .i64 0] w (AtPost w (0, 0) false)) := hid (fun w v h => at_out h (.inr (by omega)))
    have SZ : Hid (sz o ≤ 100000) := hid (by omega)
    have HG := hid hat
    have FIN := hid (put_tree (n := n) HB.out HSR.out HI.out hb2 (by rw [hso, HG.out, if_pos rfl]))
    clear hat hso hb2 hl hlen hsz hge hsl hbal hsrt hput hi hz1 hw0 hK ht ho hsa hi0
    go_enter Tryz.func162, Tryz.ntmps162
    go_wp2_with fail
    rw [← HK.out, ← HW.out]
    go_region_held3 (fun w' => w'.cell? ⟨K, 0, none⟩ = some (.pointer pt))
      (first | go_keep | (go_split_ands; and_intros <;> (first | (refine cell_later (by assumption) ?_; first | assumption | (rw [Qt.cell (qt_of _ _)]; assumption) | (rw [Qt.cell (qt_drew _)]; assumption)) | (refine cell_later (bel_new _ _) ?_; assumption))) | (refine cell_later (by assumption) ?_; first | assumption | (rw [Qt.cell (qt_of _ _)]; assumption) | (rw [Qt.cell (qt_drew _)]; assumption)) | (refine cell_later (bel_new _ _) ?_; assumption))
      (first | (go_at_call 164; (with_reducible refine (FC.out _ (by repeat (first | exact HT.out | refine IsTr.new ?_ _ | refine IsTr.cqt ?_ (qt_drew _) | refine IsTr.cqt ?_ (qt_of _ _) | refine IsTr.call ?_ (by assumption) | refine IsTr.cqt ?_ (by assumption)))).mono ?_); rintro e w1 ⟨rfl, b1⟩)
             | (go_at_call 187; (with_reducible refine (SC.out _ (by repeat (first | exact HT.out | refine IsTr.new ?_ _ | refine IsTr.cqt ?_ (qt_drew _) | refine IsTr.cqt ?_ (qt_of _ _) | refine IsTr.call ?_ (by assumption) | refine IsTr.cqt ?_ (by assumption)))).mono ?_); rintro e w2 ⟨v1, v2, rfl, g1, g2, b2⟩))
    have G1 := hid g1
    have G2 : Hid (IsTr w2 w2.heap.size v2 o) := hid (by rw [HO.out]; exact g2)
    have R2 : Hid (Blk w2 (K + 1) 195 [.pointer none] ∧ K + 2 ≤ w2.heap.size) := hid (by
      have hb : Below w0.heap.size w0 w2 := (by repeat (first | exact Below.refl _ _ | exact Qt.bel (qt_drew _) | exact Qt.bel (qt_of _ _) | refine Bl.call ?_ (by assumption) | refine Bl.qt ?_ (qt_drew _) | refine Bl.qt ?_ (qt_of _ _)))
      exact ⟨HR.out.1.below hb (by rw [HR.out.2]; omega), by rw [← HR.out.2]; exact hb.size⟩)
    have B2 : Hid (Below w.heap.size w w2) := hid (by repeat (first | exact B0.out | exact Below.refl _ _ | refine Below.setCell ?_ (by have h0 := B0.out.size; simp; omega) _ | refine Bl.new ?_ _ | refine Bl.call ?_ (by assumption) | refine Bl.qt ?_ (by assumption) | refine Bl.qt ?_ (qt_drew _) | refine Bl.qt ?_ (qt_of _ _)))
    clear g1 g2 b1 b2
    go_wp2_with fail
    refine (AC.out _ _ G2.out).mono ?_; rintro e w3 ⟨rfl, b3⟩
    have G13 := hid (G1.out.call b3)
    have G23 := hid (G2.out.call b3)
    have B3 := hid (Bl.call B2.out b3)
    have R3 : Hid (Blk w3 (K + 1) 195 [.pointer none] ∧ K + 2 ≤ w3.heap.size) := hid ⟨R2.out.1.below b3 (by have := R2.out.2; omega), Nat.le_trans R2.out.2 b3.size⟩
    clear b3
    obtain ⟨wc, hwc⟩ : ∃ wc, wc = w3.alloc (.cells #[.int .u64 0, .int .i64 0] 228) := ⟨_, rfl⟩
    have BC : Hid (Below w.heap.size w wc) := hid (by rw [hwc]; exact Bl.new B3.out _)
    have G1c : Hid (IsTr wc wc.heap.size v1 (split t (i : Int)).1) := hid (by rw [hwc]; exact G13.out.new _)
    have GO : Hid (IsTr wc wc.heap.size v2 o) := hid (by rw [hwc]; exact G23.out.new _)
    have RC : Hid (Blk wc (K + 1) 195 [.pointer none] ∧ K + 2 ≤ wc.heap.size) := hid (by rw [hwc]; exact ⟨R3.out.1.alloc _, by have := R3.out.2; simp; omega⟩)
    have WC := hid hwc
    have WS : Hid (w3.heap.size + 1 = wc.heap.size) := hid (by rw [hwc]; simp)
    clear hwc
    go_wp2_with fail
    rw [← WC.out, WS.out]
    obtain ⟨u1, hu1⟩ : ∃ u1, u1 = wc.alloc (.cells #[.int .u64 k, .int .i64 n] 228) := ⟨_, rfl⟩
    have U1 := hid hu1
    have y0 : u1.cell? ⟨wc.heap.size, 0, none⟩ = some (.int .u64 k) := by rw [hu1]; exact (Blk.new wc _ [.int .u64 k, .int .i64 n]).cell 0
    have y1 : u1.cell? ⟨wc.heap.size, 1, none⟩ = some (.int .i64 n) := by rw [hu1]; exact (Blk.new wc _ [.int .u64 k, .int .i64 n]).cell 1
    have OC := hid (of_one (x := (k, n)) y0 y1)
    have BU : Hid (Below w.heap.size w u1) := hid (by rw [hu1]; exact Bl.new BC.out _)
    have G1u : Hid (IsTr u1 u1.heap.size v1 (split t (i : Int)).1) := hid (by rw [hu1]; exact G1c.out.new _)
    have GOu : Hid (IsTr u1 u1.heap.size v2 o) := hid (by rw [hu1]; exact GO.out.new _)
    have RU : Hid (Blk u1 (K + 1) 195 [.pointer none] ∧ K + 2 ≤ u1.heap.size) := hid (by rw [hu1]; exact ⟨RC.out.1.alloc _, by have := RC.out.2; simp; omega⟩)
    clear hu1 y0 y1
    rw [← U1.out]
    refine OC.out.mono ?_; rintro e w5 ⟨v5, rfl, g5, b5⟩
    have G5 := hid g5
    have G15 := hid (G1u.out.call b5)
    have GO5 := hid (GOu.out.call b5)
    have B5 := hid (Bl.call BU.out b5)
    have R5 : Hid (Blk w5 (K + 1) 195 [.pointer none] ∧ K + 2 ≤ w5.heap.size) := hid ⟨RU.out.1.below b5 (by have := RU.out.2; omega), Nat.le_trans RU.out.2 b5.size⟩
    clear g5 b5
    go_wp2_with fail
    refine (join_any G5.out GO5.out (sz_single _) (by have := SZ.out; omega)).mono ?_; rintro e w6 ⟨v6, rfl, g6, b6⟩
    have G6 := hid g6
    have G16 := hid (G15.out.call b6)
    have B6 := hid (Bl.call B5.out b6)
    have R6 : Hid (Blk w6 (K + 1) 195 [.pointer none] ∧ K + 2 ≤ w6.heap.size) := hid ⟨R5.out.1.below b6 (by have := R5.out.2; omega), Nat.le_trans R5.out.2 b6.size⟩
    clear g6 b6
    go_wp2_with fail
    refine (join_any G16.out G6.out HZ1.out (by rw [sz_join]; have := SZ.out; simp only [sz]; omega)).mono ?_; rintro e w7 ⟨v7, rfl, g7, b7⟩
    have R7 : Blk w7 (K + 1) 195 [.pointer none] := R6.out.1.below b7 (by have := R6.out.2; omega)
    have z0 : w7.cell? ⟨K + 1, 0, none⟩ = some (.pointer none) := R7.cell 0
    have z1 : w7.frozen? ⟨K + 1, 0, none⟩ = false := R7.frozen 0
    have P7 := hid (R7.put 0 (.pointer v7))
    have B7 := hid (Bl.call B6.out b7)
    have G7 := hid g7
    have E1 : Hid (Below w7.heap.size w7 w7) := hid (Below.refl _ _)
    have BF : Hid (Below (K + 1) w7 (w7.setCell ⟨K + 1, 0, none⟩ (.pointer v7))) := hid ((Below.refl (K + 1) w7).setCell (p := ⟨K + 1, 0, none⟩) (Nat.le_refl _) _)
    have R7h := hid R7
    clear R7 g7 b7
    go_wp2_with fail
    have z2 := P7.out.cell 0
    have BE : Hid (Below w.heap.size w (w7.setCell ⟨K + 1, 0, none⟩ (.pointer v7))) := hid (B7.out.setCell (by rw [HK.out]; simp) _)
    have GE : Hid (IsTr (w7.setCell ⟨K + 1, 0, none⟩ (.pointer v7)) (w7.setCell ⟨K + 1, 0, none⟩ (.pointer v7)).heap.size v7 (join (split t (i : Int)).1 (join (.node .nil (k, n) .nil) o))) := hid (by have := G7.out.other R7h.out (.pointer v7); simpa [World.setCell] using this)
    generalize w7.setCell ⟨K + 1, 0, none⟩ (.pointer v7) = w8 at *
    exact bodyPost_ret (v := .agg #[.pointer v7]) (by simp [results, Tryz.results162, go_sem, z2]) rfl ⟨v7, rfl, ⟨_, GE.out, FIN.out.1, FIN.out.2, HP.out⟩, BE.out⟩
end Go.Proofs.YtahodfikhocobaaGreatDoor
