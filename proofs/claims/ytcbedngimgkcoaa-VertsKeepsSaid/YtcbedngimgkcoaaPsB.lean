/- Contract of seq.turned. -/
import Derived.Test.YtcbedngimgkcoaaPsA
import Derived.Deep.RegionHeld3
namespace Go.Proofs.Ytcbedngimgkcoaa
open Go.RowKit Sq
set_option linter.unusedVariables false
attribute [local go_sem ↓] Go.wp_at_zero Go.wp_at_succ

theorem IsTr.box {w w0 : World} {v : Option Addr} {t : Tr (Int × Int)} {o : Obj} (h : IsTr w w.heap.size v t) (hw : w0 = w.alloc o) : IsTr w0 w0.heap.size v t := by subst hw; exact h.new _
theorem height_quiet {v : Option Addr} {t : Tr (Int × Int)} {B : Nat} {w : World} {n : Nat} (h : IsTr w B v t) :
    Calls Try.prog 45 #[.pointer v] (w.drewN n) fun e w'' => e = .returned (.int .i64 (ht t : Nat)) ∧ ∃ m, w'' = w.drewN m :=
  quiet_eq ((height_any (h.keep (Nat.le_refl _) (fun _ _ _ => rfl))))

set_option maxRecDepth 100000 in
set_option maxHeartbeats 2000000 in
theorem turned_left1 {va vb : Option Addr} {aa ab b : Tr (Int × Int)} {ax x : Int × Int} {w : World} (ha : IsTr w w.heap.size va (.node aa ax ab)) (hb : IsTr w w.heap.size vb b) (hs : sz (.node aa ax ab) + sz b ≤ 100000000)
    (h : ht b + 1 < ht (.node aa ax ab)) (h1 : ht ab ≤ ht aa) :
    Calls Try.prog 46 #[.pointer va, .agg #[.int .u64 x.1, .int .i64 x.2], .pointer vb] w (TrPost w (turned (.node aa ax ab) x b)) := by
  rw [turned_l1 h h1]
  obtain ⟨K, hK⟩ : ∃ K, K = w.heap.size := ⟨_, rfl⟩
  obtain ⟨w0, hw0⟩ : ∃ w0, w0 = w.alloc (.cells #[.int .u64 x.1, .int .i64 x.2] 71) := ⟨_, rfl⟩
  have B0 : Hid (Below w.heap.size w w0) := hid (by rw [hw0]; exact bel_new w _)
  have x0 : w0.cell? ⟨K, 0, none⟩ = some (.int .u64 x.1) := by rw [hw0, hK]; exact (Blk.new w _ [.int .u64 x.1, .int .i64 x.2]).cell 0
  have x1 : w0.cell? ⟨K, 1, none⟩ = some (.int .i64 x.2) := by rw [hw0, hK]; exact (Blk.new w _ [.int .u64 x.1, .int .i64 x.2]).cell 1
  have HW := hid hw0
  have HK := hid hK
  clear hK hw0
  replace ha := ha.box HW.out
  replace hb := hb.box HW.out
  have HA := hid ha
  have HB := hid hb
  obtain ⟨k, pa, pb, rfl, hlt, c0, c1, c2, c2', c3, c4, hpa, hpb⟩ := ha
  have HPA := hid hpa
  have HPB := hid hpb
  have hsz : sz (.node aa ax ab) = sz aa + 1 + sz ab := rfl
  have hsn : Hid (sz (.node ab x b) = sz ab + 1 + sz b) := hid rfl
  have hs1 : sz aa + sz ab + sz b ≤ 100000000 := by omega
  have b1 := ht_le_sz aa
  have b2 := ht_le_sz ab
  have b3 := ht_le_sz b
  have b4 := ht_le_sz (.node aa ax ab)
  rw [hsz] at b4
  clear hb hpa hpb c3 c4 hs hsz
  have h' : (ht b : Int) + 1 < (ht (.node aa ax ab) : Int) := by omega
  have q1 : sz aa ≤ 1000000000 := by omega
  have q2 : sz ab ≤ 1000000000 := by omega
  have q3 : sz b ≤ 1000000000 := by omega
  have q4 : sz (.node ab x b) ≤ 1000000000 := by rw [hsn.out]; omega
  have h1' : (ht ab : Int) ≤ (ht aa : Int) := by omega
  go_enter Try.func46, Try.ntmps46
  go_wp2_with fail
  rw [← HK.out, ← HW.out]
  refine (height_any HA.out).mono ?_; rintro e w' ⟨rfl, rfl⟩
  go_wp2_with fail
  refine (height_any HB.out).mono ?_; rintro e w' ⟨rfl, rfl⟩
  go_wp2_with fail
  go_quiet (first | (go_at_call 45; with_reducible exact height_quiet HPA.out) | (go_at_call 45; with_reducible exact height_quiet HPB.out))
  go_wp2_with fail
  go_region_held3 (fun w' => w'.cell? ⟨k, 0, none⟩ = some (.pointer pa) ∧ w'.cell? ⟨k, 1, none⟩ = some (.pointer pb) ∧ w'.cell? ⟨k, 2, none⟩ = some (.int .u64 ax.1) ∧ w'.cell? ⟨k, 3, none⟩ = some (.int .i64 ax.2) ∧ w'.cell? ⟨K, 0, none⟩ = some (.int .u64 x.1) ∧ w'.cell? ⟨K, 1, none⟩ = some (.int .i64 x.2))
    (first | go_keep | (go_split_ands; and_intros <;> (refine cell_later (by assumption) ?_; first | assumption | (rw [Qt.cell (qt_of _ _)]; assumption) | (rw [Qt.cell (qt_drew _)]; assumption))) | (refine cell_later (by assumption) ?_; first | assumption | (rw [Qt.cell (qt_of _ _)]; assumption) | (rw [Qt.cell (qt_drew _)]; assumption)))
    (first | (go_at_call 44; (with_reducible refine (tree_any (HPB.out.cqt (qt_of _ _)) (HB.out.cqt (qt_of _ _)) q2 q3).mono ?_); rintro e w' ⟨vt, rfl, hT, hb2⟩)
           | (go_at_call 44; (with_reducible refine (tree_any ((HPA.out.cqt (qt_of _ _)).call hb2) hT q1 q4).mono ?_); rintro e w' ⟨vt2, rfl, hT2, hb3⟩))
  go_wp2
  go_ret
  exact ⟨_, rfl, hT2, (by repeat (first | exact B0.out | exact Below.refl _ _ | refine Bl.call ?_ (by assumption) | refine Bl.qt ?_ (by assumption) | refine Bl.qt ?_ (qt_drew _) | refine Bl.qt ?_ (qt_of _ _)))⟩
set_option maxRecDepth 100000 in
set_option maxHeartbeats 2000000 in
theorem turned_left2 {va vb : Option Addr} {aa ta tb b : Tr (Int × Int)} {ax tx x : Int × Int} {w : World} (ha : IsTr w w.heap.size va (.node aa ax (.node ta tx tb))) (hb : IsTr w w.heap.size vb b) (hs : sz (.node aa ax (.node ta tx tb)) + sz b ≤ 100000000)
    (h : ht b + 1 < ht (.node aa ax (.node ta tx tb))) (h1 : ¬ ht (.node ta tx tb) ≤ ht aa) :
    Calls Try.prog 46 #[.pointer va, .agg #[.int .u64 x.1, .int .i64 x.2], .pointer vb] w (TrPost w (turned (.node aa ax (.node ta tx tb)) x b)) := by
  rw [turned_l2 h h1]
  obtain ⟨K, hK⟩ : ∃ K, K = w.heap.size := ⟨_, rfl⟩
  obtain ⟨w0, hw0⟩ : ∃ w0, w0 = w.alloc (.cells #[.int .u64 x.1, .int .i64 x.2] 71) := ⟨_, rfl⟩
  have B0 : Hid (Below w.heap.size w w0) := hid (by rw [hw0]; exact bel_new w _)
  have x0 : w0.cell? ⟨K, 0, none⟩ = some (.int .u64 x.1) := by rw [hw0, hK]; exact (Blk.new w _ [.int .u64 x.1, .int .i64 x.2]).cell 0
  have x1 : w0.cell? ⟨K, 1, none⟩ = some (.int .i64 x.2) := by rw [hw0, hK]; exact (Blk.new w _ [.int .u64 x.1, .int .i64 x.2]).cell 1
  have HW := hid hw0
  have HK := hid hK
  clear hK hw0
  replace ha := ha.box HW.out
  replace hb := hb.box HW.out
  have HA := hid ha
  have HB := hid hb
  obtain ⟨k, pa, pb, rfl, hlt, c0, c1, c2, c2', c3, c4, hpa, hpb⟩ := ha
  have HPA := hid hpa
  have HPB := hid hpb
  obtain ⟨k', qa, qb, rfl, hlt', d0, d1, d2, d2', d3, d4, hqa, hqb⟩ := hpb
  have HQA := hid hqa
  have HQB := hid hqb
  have hsz : sz (.node aa ax (.node ta tx tb)) = sz aa + 1 + (sz ta + 1 + sz tb) := rfl
  have hsz' : sz (.node ta tx tb) = sz ta + 1 + sz tb := rfl
  have hs1 : sz aa + sz ta + sz tb + sz b ≤ 100000000 := by omega
  have q1 : sz aa ≤ 1000000000 := by omega
  have q2 : sz ta ≤ 1000000000 := by omega
  have q3 : sz tb ≤ 1000000000 := by omega
  have q4 : sz b ≤ 1000000000 := by omega
  have q5 : sz (.node aa ax ta) ≤ 1000000000 := by simp only [sz]; omega
  have q6 : sz (.node tb x b) ≤ 1000000000 := by simp only [sz]; omega
  have b1 := ht_le_sz aa
  have b2 := ht_le_sz (.node ta tx tb)
  have b3 := ht_le_sz b
  have b4 := ht_le_sz (.node aa ax (.node ta tx tb))
  rw [hsz] at b4
  rw [hsz'] at b2
  clear hb hpa hqa hqb c3 c4 d3 d4 hs hsz hsz'
  have h' : (ht b : Int) + 1 < (ht (.node aa ax (.node ta tx tb)) : Int) := by omega
  have h1' : ¬ (ht (.node ta tx tb) : Int) ≤ (ht aa : Int) := by omega
  go_enter Try.func46, Try.ntmps46
  go_wp2_with fail
  rw [← HK.out, ← HW.out]
  refine (height_any HA.out).mono ?_; rintro e w' ⟨rfl, rfl⟩
  go_wp2_with fail
  refine (height_any HB.out).mono ?_; rintro e w' ⟨rfl, rfl⟩
  go_wp2_with fail
  go_quiet (first | (go_at_call 45; with_reducible exact height_quiet HPA.out) | (go_at_call 45; with_reducible exact height_quiet HPB.out))
  go_wp2_with fail
  go_region_held3 (fun w' => w'.cell? ⟨k, 0, none⟩ = some (.pointer pa) ∧ w'.cell? ⟨k, 2, none⟩ = some (.int .u64 ax.1) ∧ w'.cell? ⟨k, 3, none⟩ = some (.int .i64 ax.2) ∧ w'.cell? ⟨k', 0, none⟩ = some (.pointer qa) ∧ w'.cell? ⟨k', 1, none⟩ = some (.pointer qb) ∧ w'.cell? ⟨k', 2, none⟩ = some (.int .u64 tx.1) ∧ w'.cell? ⟨k', 3, none⟩ = some (.int .i64 tx.2) ∧ w'.cell? ⟨K, 0, none⟩ = some (.int .u64 x.1) ∧ w'.cell? ⟨K, 1, none⟩ = some (.int .i64 x.2))
    (first | go_keep | (go_split_ands; and_intros <;> (refine cell_later (by assumption) ?_; first | assumption | (rw [Qt.cell (qt_of _ _)]; assumption) | (rw [Qt.cell (qt_drew _)]; assumption))) | (refine cell_later (by assumption) ?_; first | assumption | (rw [Qt.cell (qt_of _ _)]; assumption) | (rw [Qt.cell (qt_drew _)]; assumption)))
    (first | (go_at_call 44; (with_reducible refine (tree_any (HPA.out.cqt (qt_of _ _)) (HQA.out.cqt (qt_of _ _)) q1 q2).mono ?_); rintro e w' ⟨vt, rfl, hT, hb2⟩)
           | (go_at_call 44; (with_reducible refine (tree_any ((HQB.out.cqt (qt_of _ _)).call hb2) ((HB.out.cqt (qt_of _ _)).call hb2) q3 q4).mono ?_); rintro e w' ⟨vt2, rfl, hT2, hb3⟩)
           | (go_at_call 44; (with_reducible refine (tree_any (hT.call hb3) hT2 q5 q6).mono ?_); rintro e w' ⟨vt3, rfl, hT3, hb4⟩))
  go_wp2
  go_ret
  exact ⟨_, rfl, hT3, (by repeat (first | exact B0.out | exact Below.refl _ _ | refine Bl.call ?_ (by assumption) | refine Bl.qt ?_ (by assumption) | refine Bl.qt ?_ (qt_drew _) | refine Bl.qt ?_ (qt_of _ _)))⟩

set_option maxRecDepth 100000 in
set_option maxHeartbeats 2000000 in
theorem turned_right1 {va vb : Option Addr} {a ba bb : Tr (Int × Int)} {bx x : Int × Int} {w : World} (ha : IsTr w w.heap.size va a) (hb : IsTr w w.heap.size vb (.node ba bx bb)) (hs : sz a + sz (.node ba bx bb) ≤ 100000000)
    (h0 : ¬ ht (.node ba bx bb) + 1 < ht a) (h : ht a + 1 < ht (.node ba bx bb)) (h1 : ht ba ≤ ht bb) :
    Calls Try.prog 46 #[.pointer va, .agg #[.int .u64 x.1, .int .i64 x.2], .pointer vb] w (TrPost w (turned a x (.node ba bx bb))) := by
  rw [turned_r1 h0 h h1]
  obtain ⟨K, hK⟩ : ∃ K, K = w.heap.size := ⟨_, rfl⟩
  obtain ⟨w0, hw0⟩ : ∃ w0, w0 = w.alloc (.cells #[.int .u64 x.1, .int .i64 x.2] 71) := ⟨_, rfl⟩
  have B0 : Hid (Below w.heap.size w w0) := hid (by rw [hw0]; exact bel_new w _)
  have x0 : w0.cell? ⟨K, 0, none⟩ = some (.int .u64 x.1) := by rw [hw0, hK]; exact (Blk.new w _ [.int .u64 x.1, .int .i64 x.2]).cell 0
  have x1 : w0.cell? ⟨K, 1, none⟩ = some (.int .i64 x.2) := by rw [hw0, hK]; exact (Blk.new w _ [.int .u64 x.1, .int .i64 x.2]).cell 1
  have HW := hid hw0
  have HK := hid hK
  clear hK hw0
  replace ha := ha.box HW.out
  replace hb := hb.box HW.out
  have HA := hid ha
  have HB := hid hb
  obtain ⟨k, pa, pb, rfl, hlt, c0, c1, c2, c2', c3, c4, hpa, hpb⟩ := hb
  have HPA := hid hpa
  have HPB := hid hpb
  have hsz : sz (.node ba bx bb) = sz ba + 1 + sz bb := rfl
  have hs1 : sz a + sz ba + sz bb ≤ 100000000 := by omega
  have q1 : sz a ≤ 1000000000 := by omega
  have q2 : sz ba ≤ 1000000000 := by omega
  have q3 : sz bb ≤ 1000000000 := by omega
  have q4 : sz (.node a x ba) ≤ 1000000000 := by simp only [sz]; omega
  have b1 := ht_le_sz ba
  have b2 := ht_le_sz bb
  have b3 := ht_le_sz a
  have b4 := ht_le_sz (.node ba bx bb)
  rw [hsz] at b4
  clear ha hpa hpb c3 c4 hs hsz
  have h0' : ¬ (ht (.node ba bx bb) : Int) + 1 < (ht a : Int) := by omega
  have h' : (ht a : Int) + 1 < (ht (.node ba bx bb) : Int) := by omega
  have h1' : (ht ba : Int) ≤ (ht bb : Int) := by omega
  go_enter Try.func46, Try.ntmps46
  go_wp2_with fail
  rw [← HK.out, ← HW.out]
  refine (height_any HA.out).mono ?_; rintro e w' ⟨rfl, rfl⟩
  go_wp2_with fail
  refine (height_any HB.out).mono ?_; rintro e w' ⟨rfl, rfl⟩
  go_wp2_with fail
  refine (height_any HB.out).mono ?_; rintro e w' ⟨rfl, rfl⟩
  go_wp2_with fail
  refine (height_any HA.out).mono ?_; rintro e w' ⟨rfl, rfl⟩
  go_wp2_with fail
  go_quiet (first | (go_at_call 45; with_reducible exact height_quiet HPB.out) | (go_at_call 45; with_reducible exact height_quiet HPA.out))
  go_wp2_with fail
  go_region_held3 (fun w' => w'.cell? ⟨k, 0, none⟩ = some (.pointer pa) ∧ w'.cell? ⟨k, 1, none⟩ = some (.pointer pb) ∧ w'.cell? ⟨k, 2, none⟩ = some (.int .u64 bx.1) ∧ w'.cell? ⟨k, 3, none⟩ = some (.int .i64 bx.2) ∧ w'.cell? ⟨K, 0, none⟩ = some (.int .u64 x.1) ∧ w'.cell? ⟨K, 1, none⟩ = some (.int .i64 x.2))
    (first | go_keep | (go_split_ands; and_intros <;> (refine cell_later (by assumption) ?_; first | assumption | (rw [Qt.cell (qt_of _ _)]; assumption) | (rw [Qt.cell (qt_drew _)]; assumption))) | (refine cell_later (by assumption) ?_; first | assumption | (rw [Qt.cell (qt_of _ _)]; assumption) | (rw [Qt.cell (qt_drew _)]; assumption)))
    (first | (go_at_call 44; (with_reducible refine (tree_any (HA.out.cqt (qt_of _ _)) (HPA.out.cqt (qt_of _ _)) q1 q2).mono ?_); rintro e w' ⟨vt, rfl, hT, hb2⟩)
           | (go_at_call 44; (with_reducible refine (tree_any hT ((HPB.out.cqt (qt_of _ _)).call hb2) q4 q3).mono ?_); rintro e w' ⟨vt2, rfl, hT2, hb3⟩))
  go_wp2
  go_ret
  exact ⟨_, rfl, hT2, (by repeat (first | exact B0.out | exact Below.refl _ _ | refine Bl.call ?_ (by assumption) | refine Bl.qt ?_ (by assumption) | refine Bl.qt ?_ (qt_drew _) | refine Bl.qt ?_ (qt_of _ _)))⟩

set_option maxRecDepth 100000 in
set_option maxHeartbeats 2000000 in
theorem turned_right2 {va vb : Option Addr} {a ta tb bb : Tr (Int × Int)} {tx bx x : Int × Int} {w : World} (ha : IsTr w w.heap.size va a) (hb : IsTr w w.heap.size vb (.node (.node ta tx tb) bx bb)) (hs : sz a + sz (.node (.node ta tx tb) bx bb) ≤ 100000000)
    (h0 : ¬ ht (.node (.node ta tx tb) bx bb) + 1 < ht a) (h : ht a + 1 < ht (.node (.node ta tx tb) bx bb)) (h1 : ¬ ht (.node ta tx tb) ≤ ht bb) :
    Calls Try.prog 46 #[.pointer va, .agg #[.int .u64 x.1, .int .i64 x.2], .pointer vb] w (TrPost w (turned a x (.node (.node ta tx tb) bx bb))) := by
  rw [turned_r2 h0 h h1]
  obtain ⟨K, hK⟩ : ∃ K, K = w.heap.size := ⟨_, rfl⟩
  obtain ⟨w0, hw0⟩ : ∃ w0, w0 = w.alloc (.cells #[.int .u64 x.1, .int .i64 x.2] 71) := ⟨_, rfl⟩
  have B0 : Hid (Below w.heap.size w w0) := hid (by rw [hw0]; exact bel_new w _)
  have x0 : w0.cell? ⟨K, 0, none⟩ = some (.int .u64 x.1) := by rw [hw0, hK]; exact (Blk.new w _ [.int .u64 x.1, .int .i64 x.2]).cell 0
  have x1 : w0.cell? ⟨K, 1, none⟩ = some (.int .i64 x.2) := by rw [hw0, hK]; exact (Blk.new w _ [.int .u64 x.1, .int .i64 x.2]).cell 1
  have HW := hid hw0
  have HK := hid hK
  clear hK hw0
  replace ha := ha.box HW.out
  replace hb := hb.box HW.out
  have HA := hid ha
  have HB := hid hb
  obtain ⟨k, pa, pb, rfl, hlt, c0, c1, c2, c2', c3, c4, hpa, hpb⟩ := hb
  have HPA := hid hpa
  have HPB := hid hpb
  obtain ⟨k', qa, qb, rfl, hlt', d0, d1, d2, d2', d3, d4, hqa, hqb⟩ := hpa
  have HQA := hid hqa
  have HQB := hid hqb
  have hsz : sz (.node (.node ta tx tb) bx bb) = (sz ta + 1 + sz tb) + 1 + sz bb := rfl
  have hsz' : sz (.node ta tx tb) = sz ta + 1 + sz tb := rfl
  have hs1 : sz a + sz ta + sz tb + sz bb ≤ 100000000 := by omega
  have q1 : sz a ≤ 1000000000 := by omega
  have q2 : sz ta ≤ 1000000000 := by omega
  have q3 : sz tb ≤ 1000000000 := by omega
  have q4 : sz bb ≤ 1000000000 := by omega
  have q5 : sz (.node a x ta) ≤ 1000000000 := by simp only [sz]; omega
  have q6 : sz (.node tb bx bb) ≤ 1000000000 := by simp only [sz]; omega
  have b1 := ht_le_sz a
  have b2 := ht_le_sz (.node ta tx tb)
  have b3 := ht_le_sz bb
  have b4 := ht_le_sz (.node (.node ta tx tb) bx bb)
  rw [hsz] at b4
  rw [hsz'] at b2
  clear ha hpb hqa hqb c3 c4 d3 d4 hs hsz hsz'
  have h0' : ¬ (ht (.node (.node ta tx tb) bx bb) : Int) + 1 < (ht a : Int) := by omega
  have h' : (ht a : Int) + 1 < (ht (.node (.node ta tx tb) bx bb) : Int) := by omega
  have h1' : ¬ (ht (.node ta tx tb) : Int) ≤ (ht bb : Int) := by omega
  go_enter Try.func46, Try.ntmps46
  go_wp2_with fail
  rw [← HK.out, ← HW.out]
  refine (height_any HA.out).mono ?_; rintro e w' ⟨rfl, rfl⟩
  go_wp2_with fail
  refine (height_any HB.out).mono ?_; rintro e w' ⟨rfl, rfl⟩
  go_wp2_with fail
  refine (height_any HB.out).mono ?_; rintro e w' ⟨rfl, rfl⟩
  go_wp2_with fail
  refine (height_any HA.out).mono ?_; rintro e w' ⟨rfl, rfl⟩
  go_wp2_with fail
  go_quiet (first | (go_at_call 45; with_reducible exact height_quiet HPB.out) | (go_at_call 45; with_reducible exact height_quiet HPA.out))
  go_wp2_with fail
  go_region_held3 (fun w' => w'.cell? ⟨k, 1, none⟩ = some (.pointer pb) ∧ w'.cell? ⟨k, 2, none⟩ = some (.int .u64 bx.1) ∧ w'.cell? ⟨k, 3, none⟩ = some (.int .i64 bx.2) ∧ w'.cell? ⟨k', 0, none⟩ = some (.pointer qa) ∧ w'.cell? ⟨k', 1, none⟩ = some (.pointer qb) ∧ w'.cell? ⟨k', 2, none⟩ = some (.int .u64 tx.1) ∧ w'.cell? ⟨k', 3, none⟩ = some (.int .i64 tx.2) ∧ w'.cell? ⟨K, 0, none⟩ = some (.int .u64 x.1) ∧ w'.cell? ⟨K, 1, none⟩ = some (.int .i64 x.2))
    (first | go_keep | (go_split_ands; and_intros <;> (refine cell_later (by assumption) ?_; first | assumption | (rw [Qt.cell (qt_of _ _)]; assumption) | (rw [Qt.cell (qt_drew _)]; assumption))) | (refine cell_later (by assumption) ?_; first | assumption | (rw [Qt.cell (qt_of _ _)]; assumption) | (rw [Qt.cell (qt_drew _)]; assumption)))
    (first | (go_at_call 44; (with_reducible refine (tree_any (HA.out.cqt (qt_of _ _)) (HQA.out.cqt (qt_of _ _)) q1 q2).mono ?_); rintro e w' ⟨vt, rfl, hT, hb2⟩)
           | (go_at_call 44; (with_reducible refine (tree_any ((HQB.out.cqt (qt_of _ _)).call hb2) ((HPB.out.cqt (qt_of _ _)).call hb2) q3 q4).mono ?_); rintro e w' ⟨vt2, rfl, hT2, hb3⟩)
           | (go_at_call 44; (with_reducible refine (tree_any (hT.call hb3) hT2 q5 q6).mono ?_); rintro e w' ⟨vt3, rfl, hT3, hb4⟩))
  go_wp2
  go_ret
  exact ⟨_, rfl, hT3, (by repeat (first | exact B0.out | exact Below.refl _ _ | refine Bl.call ?_ (by assumption) | refine Bl.qt ?_ (by assumption) | refine Bl.qt ?_ (qt_drew _) | refine Bl.qt ?_ (qt_of _ _)))⟩

theorem turned_mid {va vb : Option Addr} {a b : Tr (Int × Int)} {x : Int × Int} {w : World} (ha : IsTr w w.heap.size va a) (hb : IsTr w w.heap.size vb b) (hs : sz a + sz b ≤ 100000000)
    (h0 : ¬ ht b + 1 < ht a) (h : ¬ ht a + 1 < ht b) :
    Calls Try.prog 46 #[.pointer va, .agg #[.int .u64 x.1, .int .i64 x.2], .pointer vb] w (TrPost w (turned a x b)) := by
  rw [turned_c h0 h]
  obtain ⟨K, hK⟩ : ∃ K, K = w.heap.size := ⟨_, rfl⟩
  obtain ⟨w0, hw0⟩ : ∃ w0, w0 = w.alloc (.cells #[.int .u64 x.1, .int .i64 x.2] 71) := ⟨_, rfl⟩
  have B0 : Hid (Below w.heap.size w w0) := hid (by rw [hw0]; exact bel_new w _)
  have x0 : w0.cell? ⟨K, 0, none⟩ = some (.int .u64 x.1) := by rw [hw0, hK]; exact (Blk.new w _ [.int .u64 x.1, .int .i64 x.2]).cell 0
  have x1 : w0.cell? ⟨K, 1, none⟩ = some (.int .i64 x.2) := by rw [hw0, hK]; exact (Blk.new w _ [.int .u64 x.1, .int .i64 x.2]).cell 1
  have HW := hid hw0
  have HK := hid hK
  clear hK hw0
  replace ha := ha.box HW.out
  replace hb := hb.box HW.out
  have HA := hid ha
  have HB := hid hb
  have q1 : sz a ≤ 1000000000 := by omega
  have q2 : sz b ≤ 1000000000 := by omega
  have b1 := ht_le_sz a
  have b2 := ht_le_sz b
  have h0' : ¬ (ht b : Int) + 1 < (ht a : Int) := by omega
  have h' : ¬ (ht a : Int) + 1 < (ht b : Int) := by omega
  clear ha hb
  go_enter Try.func46, Try.ntmps46
  go_wp2_with fail
  rw [← HK.out, ← HW.out]
  refine (height_any HA.out).mono ?_; rintro e w' ⟨rfl, rfl⟩
  go_wp2_with fail
  refine (height_any HB.out).mono ?_; rintro e w' ⟨rfl, rfl⟩
  go_wp2_with fail
  refine (height_any HB.out).mono ?_; rintro e w' ⟨rfl, rfl⟩
  go_wp2_with fail
  refine (height_any HA.out).mono ?_; rintro e w' ⟨rfl, rfl⟩
  go_wp2_with fail
  refine (tree_any HA.out HB.out q1 q2).mono ?_; rintro e w' ⟨vt, rfl, hT, hb2⟩
  go_wp2
  go_ret
  exact ⟨_, rfl, hT, (by repeat (first | exact B0.out | exact Below.refl _ _ | refine Bl.call ?_ (by assumption) | refine Bl.qt ?_ (by assumption) | refine Bl.qt ?_ (qt_drew _) | refine Bl.qt ?_ (qt_of _ _)))⟩
theorem turned_any {va vb : Option Addr} {a b : Tr (Int × Int)} {x : Int × Int} {w : World} (ha : IsTr w w.heap.size va a) (hb : IsTr w w.heap.size vb b) (hs : sz a + sz b ≤ 100000000) :
    Calls Try.prog 46 #[.pointer va, .agg #[.int .u64 x.1, .int .i64 x.2], .pointer vb] w (TrPost w (turned a x b)) := by
  by_cases h0 : ht b + 1 < ht a
  · cases a with
    | nil => simp [ht] at h0
    | node aa ax ab =>
      by_cases h1 : ht ab ≤ ht aa
      · exact turned_left1 ha hb hs h0 h1
      · cases ab with
        | nil => simp [ht] at h1
        | node ta tx tb => exact turned_left2 ha hb hs h0 h1
  · by_cases h : ht a + 1 < ht b
    · cases b with
      | nil => simp [ht] at h
      | node ba bx bb =>
        by_cases h1 : ht ba ≤ ht bb
        · exact turned_right1 ha hb hs h0 h h1
        · cases ba with
          | nil => simp [ht] at h1
          | node ta tx tb => exact turned_right2 ha hb hs h0 h h1
    · exact turned_mid ha hb hs h0 h
end Go.Proofs.Ytcbedngimgkcoaa
