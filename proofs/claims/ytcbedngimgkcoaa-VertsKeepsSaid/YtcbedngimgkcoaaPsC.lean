/- Contracts of seq.around, seq.At. -/
import Derived.Test.YtcbedngimgkcoaaPsB
import Derived.Deep.LoopGhost
namespace Go.Proofs.Ytcbedngimgkcoaa
open Go.RowKit Sq
set_option linter.unusedVariables false
attribute [local go_sem ↓] Go.wp_at_zero Go.wp_at_succ


def AroundSaid (n : Nat) : Prop := ∀ (va vb : Option Addr) (a b : Tr (Int × Int)) (x : Int × Int) (w : World), sz a + sz b = n → IsTr w w.heap.size va a → IsTr w w.heap.size vb b → sz a + sz b ≤ 10000000 →
    Calls Try.prog 43 #[.pointer va, .agg #[.int .u64 x.1, .int .i64 x.2], .pointer vb] w (TrPost w (around a x b))

set_option maxRecDepth 100000 in
set_option maxHeartbeats 2000000 in
theorem around_l {n : Nat} (ih : ∀ m, m < n → AroundSaid m) {va vb : Option Addr} {aa ab b : Tr (Int × Int)} {ax x : Int × Int} {w : World} (hn : sz (.node aa ax ab) + sz b = n) (ha : IsTr w w.heap.size va (.node aa ax ab)) (hb : IsTr w w.heap.size vb b)
    (hs : sz (.node aa ax ab) + sz b ≤ 10000000) (h : ht b + 1 < ht (.node aa ax ab)) :
    Calls Try.prog 43 #[.pointer va, .agg #[.int .u64 x.1, .int .i64 x.2], .pointer vb] w (TrPost w (around (.node aa ax ab) x b)) := by
  rw [around_left h]
  obtain ⟨K, hK⟩ : ∃ K, K = w.heap.size := ⟨_, rfl⟩
  obtain ⟨w0, hw0⟩ : ∃ w0, w0 = w.alloc (.cells #[.int .u64 x.1, .int .i64 x.2] 71) := ⟨_, rfl⟩
  have B0 : Hid (Below w.heap.size w w0) := hid (by rw [hw0]; exact bel_new w _)
  have x0 : w0.cell? ⟨K, 0, none⟩ = some (.int .u64 x.1) := by rw [hw0, hK]; exact (Blk.new w _ [.int .u64 x.1, .int .i64 x.2]).cell 0
  have x1 : w0.cell? ⟨K, 1, none⟩ = some (.int .i64 x.2) := by rw [hw0, hK]; exact (Blk.new w _ [.int .u64 x.1, .int .i64 x.2]).cell 1
  have HW := hid hw0
  have HK := hid hK
  clear hK hw0
  replace ha := ha.box HW.out
  replace hb := hb.box HW.out
  have HA := hid ha
  have HB := hid hb
  obtain ⟨k, pa, pb, rfl, hlt, c0, c1, c2, c2', c3, c4, hpa, hpb⟩ := ha
  have HPA := hid hpa
  have HPB := hid hpb
  have hsz : sz (.node aa ax ab) = sz aa + 1 + sz ab := rfl
  have IH : ∀ {va vb : Option Addr} {w : World}, IsTr w w.heap.size va ab → IsTr w w.heap.size vb b → Hid (sz ab + sz b < n) → Calls Try.prog 43 #[.pointer va, .agg #[.int .u64 x.1, .int .i64 x.2], .pointer vb] w (TrPost w (around ab x b)) :=
    fun {va vb w} h1 h2 h3 => ih (sz ab + sz b) h3.out va vb ab b x w rfl h1 h2 (by omega)
  have h3 : Hid (sz ab + sz b < n) := hid (by omega)
  have q1 : sz ab + sz b ≤ 10000000 := by omega
  have q2 : sz aa + sz (around ab x b) ≤ 100000000 := by rw [sz_around]; omega
  have b1 := ht_le_sz b
  have b2 := ht_le_sz (.node aa ax ab)
  rw [hsz] at b2
  have hs1 : sz aa + sz ab + sz b ≤ 10000000 := by omega
  have h' : (ht b : Int) + 1 < (ht (.node aa ax ab) : Int) := by omega
  clear hb hpa hpb c3 c4 hs hsz ih hn
  go_enter Try.func43, Try.ntmps43
  go_wp2_with fail
  rw [← HK.out, ← HW.out]
  refine (height_any HA.out).mono ?_; rintro e w' ⟨rfl, rfl⟩
  go_wp2_with fail
  refine (height_any HB.out).mono ?_; rintro e w' ⟨rfl, rfl⟩
  go_wp2_with fail
  go_region_held3 (fun w' => w'.cell? ⟨k, 0, none⟩ = some (.pointer pa) ∧ w'.cell? ⟨k, 1, none⟩ = some (.pointer pb) ∧ w'.cell? ⟨k, 2, none⟩ = some (.int .u64 ax.1) ∧ w'.cell? ⟨k, 3, none⟩ = some (.int .i64 ax.2) ∧ w'.cell? ⟨K, 0, none⟩ = some (.int .u64 x.1) ∧ w'.cell? ⟨K, 1, none⟩ = some (.int .i64 x.2))
    (first | go_keep | (go_split_ands; and_intros <;> (refine cell_later (by assumption) ?_; first | assumption | (rw [Qt.cell (qt_of _ _)]; assumption) | (rw [Qt.cell (qt_drew _)]; assumption))) | (refine cell_later (by assumption) ?_; first | assumption | (rw [Qt.cell (qt_of _ _)]; assumption) | (rw [Qt.cell (qt_drew _)]; assumption)))
    (first | (go_at_call 43; (with_reducible refine (IH (HPB.out.cqt (qt_of _ _)) (HB.out.cqt (qt_of _ _)) h3).mono ?_); rintro e w' ⟨vt, rfl, hT, hb2⟩)
           | (go_at_call 43; (with_reducible refine (IH (HPB.out.cqt (qt_drew _)) (HB.out.cqt (qt_drew _)) h3).mono ?_); rintro e w' ⟨vt, rfl, hT, hb2⟩)
           | (go_at_call 46; (with_reducible refine (turned_any ((HPA.out.cqt (qt_of _ _)).call hb2) hT q2).mono ?_); rintro e w' ⟨vt2, rfl, hT2, hb3⟩)
           | (go_at_call 46; (with_reducible refine (turned_any ((HPA.out.cqt (qt_drew _)).call hb2) hT q2).mono ?_); rintro e w' ⟨vt2, rfl, hT2, hb3⟩))
  go_wp2
  go_ret
  exact ⟨_, rfl, hT2, (by repeat (first | exact B0.out | exact Below.refl _ _ | refine Bl.call ?_ (by assumption) | refine Bl.qt ?_ (by assumption) | refine Bl.qt ?_ (qt_drew _) | refine Bl.qt ?_ (qt_of _ _)))⟩

set_option maxRecDepth 100000 in
set_option maxHeartbeats 2000000 in
theorem around_r {n : Nat} (ih : ∀ m, m < n → AroundSaid m) {va vb : Option Addr} {a ba bb : Tr (Int × Int)} {bx x : Int × Int} {w : World} (hn : sz a + sz (.node ba bx bb) = n) (ha : IsTr w w.heap.size va a) (hb : IsTr w w.heap.size vb (.node ba bx bb))
    (hs : sz a + sz (.node ba bx bb) ≤ 10000000) (h0 : ¬ ht (.node ba bx bb) + 1 < ht a) (h : ht a + 1 < ht (.node ba bx bb)) :
    Calls Try.prog 43 #[.pointer va, .agg #[.int .u64 x.1, .int .i64 x.2], .pointer vb] w (TrPost w (around a x (.node ba bx bb))) := by
  rw [around_right h0 h]
  obtain ⟨K, hK⟩ : ∃ K, K = w.heap.size := ⟨_, rfl⟩
  obtain ⟨w0, hw0⟩ : ∃ w0, w0 = w.alloc (.cells #[.int .u64 x.1, .int .i64 x.2] 71) := ⟨_, rfl⟩
  have B0 : Hid (Below w.heap.size w w0) := hid (by rw [hw0]; exact bel_new w _)
  have x0 : w0.cell? ⟨K, 0, none⟩ = some (.int .u64 x.1) := by rw [hw0, hK]; exact (Blk.new w _ [.int .u64 x.1, .int .i64 x.2]).cell 0
  have x1 : w0.cell? ⟨K, 1, none⟩ = some (.int .i64 x.2) := by rw [hw0, hK]; exact (Blk.new w _ [.int .u64 x.1, .int .i64 x.2]).cell 1
  have HW := hid hw0
  have HK := hid hK
  clear hK hw0
  replace ha := ha.box HW.out
  replace hb := hb.box HW.out
  have HA := hid ha
  have HB := hid hb
  obtain ⟨k, pa, pb, rfl, hlt, c0, c1, c2, c2', c3, c4, hpa, hpb⟩ := hb
  have HPA := hid hpa
  have HPB := hid hpb
  have hsz : sz (.node ba bx bb) = sz ba + 1 + sz bb := rfl
  have IH : ∀ {va vb : Option Addr} {w : World}, IsTr w w.heap.size va a → IsTr w w.heap.size vb ba → Hid (sz a + sz ba < n) → Calls Try.prog 43 #[.pointer va, .agg #[.int .u64 x.1, .int .i64 x.2], .pointer vb] w (TrPost w (around a x ba)) :=
    fun {va vb w} h1 h2 h3 => ih (sz a + sz ba) h3.out va vb a ba x w rfl h1 h2 (by omega)
  have h3 : Hid (sz a + sz ba < n) := hid (by omega)
  have q1 : sz a + sz ba ≤ 10000000 := by omega
  have q2 : sz (around a x ba) + sz bb ≤ 100000000 := by rw [sz_around]; omega
  have b1 := ht_le_sz a
  have b2 := ht_le_sz (.node ba bx bb)
  rw [hsz] at b2
  have hs1 : sz a + sz ba + sz bb ≤ 10000000 := by omega
  have h0' : ¬ (ht (.node ba bx bb) : Int) + 1 < (ht a : Int) := by omega
  have h' : (ht a : Int) + 1 < (ht (.node ba bx bb) : Int) := by omega
  clear ha hpa hpb c3 c4 hs hsz ih hn
  go_enter Try.func43, Try.ntmps43
  go_wp2_with fail
  rw [← HK.out, ← HW.out]
  refine (height_any HA.out).mono ?_; rintro e w' ⟨rfl, rfl⟩
  go_wp2_with fail
  refine (height_any HB.out).mono ?_; rintro e w' ⟨rfl, rfl⟩
  go_wp2_with fail
  refine (height_any HB.out).mono ?_; rintro e w' ⟨rfl, rfl⟩
  go_wp2_with fail
  refine (height_any HA.out).mono ?_; rintro e w' ⟨rfl, rfl⟩
  go_wp2_with fail
  go_region_held3 (fun w' => w'.cell? ⟨k, 0, none⟩ = some (.pointer pa) ∧ w'.cell? ⟨k, 1, none⟩ = some (.pointer pb) ∧ w'.cell? ⟨k, 2, none⟩ = some (.int .u64 bx.1) ∧ w'.cell? ⟨k, 3, none⟩ = some (.int .i64 bx.2) ∧ w'.cell? ⟨K, 0, none⟩ = some (.int .u64 x.1) ∧ w'.cell? ⟨K, 1, none⟩ = some (.int .i64 x.2))
    (first | go_keep | (go_split_ands; and_intros <;> (refine cell_later (by assumption) ?_; first | assumption | (rw [Qt.cell (qt_of _ _)]; assumption) | (rw [Qt.cell (qt_drew _)]; assumption))) | (refine cell_later (by assumption) ?_; first | assumption | (rw [Qt.cell (qt_of _ _)]; assumption) | (rw [Qt.cell (qt_drew _)]; assumption)))
    (first | (go_at_call 43; (with_reducible refine (IH (HA.out.cqt (qt_of _ _)) (HPA.out.cqt (qt_of _ _)) h3).mono ?_); rintro e w' ⟨vt, rfl, hT, hb2⟩)
           | (go_at_call 43; (with_reducible refine (IH (HA.out.cqt (qt_drew _)) (HPA.out.cqt (qt_drew _)) h3).mono ?_); rintro e w' ⟨vt, rfl, hT, hb2⟩)
           | (go_at_call 46; (with_reducible refine (turned_any hT ((HPB.out.cqt (qt_of _ _)).call hb2) q2).mono ?_); rintro e w' ⟨vt2, rfl, hT2, hb3⟩)
           | (go_at_call 46; (with_reducible refine (turned_any hT ((HPB.out.cqt (qt_drew _)).call hb2) q2).mono ?_); rintro e w' ⟨vt2, rfl, hT2, hb3⟩))
  go_wp2
  go_ret
  exact ⟨_, rfl, hT2, (by repeat (first | exact B0.out | exact Below.refl _ _ | refine Bl.call ?_ (by assumption) | refine Bl.qt ?_ (by assumption) | refine Bl.qt ?_ (qt_drew _) | refine Bl.qt ?_ (qt_of _ _)))⟩

theorem around_m {va vb : Option Addr} {a b : Tr (Int × Int)} {x : Int × Int} {w : World} (ha : IsTr w w.heap.size va a) (hb : IsTr w w.heap.size vb b) (hs : sz a + sz b ≤ 10000000) (h0 : ¬ ht b + 1 < ht a) (h : ¬ ht a + 1 < ht b) :
    Calls Try.prog 43 #[.pointer va, .agg #[.int .u64 x.1, .int .i64 x.2], .pointer vb] w (TrPost w (around a x b)) := by
  rw [around_mid h0 h]
  obtain ⟨K, hK⟩ : ∃ K, K = w.heap.size := ⟨_, rfl⟩
  obtain ⟨w0, hw0⟩ : ∃ w0, w0 = w.alloc (.cells #[.int .u64 x.1, .int .i64 x.2] 71) := ⟨_, rfl⟩
  have B0 : Hid (Below w.heap.size w w0) := hid (by rw [hw0]; exact bel_new w _)
  have x0 : w0.cell? ⟨K, 0, none⟩ = some (.int .u64 x.1) := by rw [hw0, hK]; exact (Blk.new w _ [.int .u64 x.1, .int .i64 x.2]).cell 0
  have x1 : w0.cell? ⟨K, 1, none⟩ = some (.int .i64 x.2) := by rw [hw0, hK]; exact (Blk.new w _ [.int .u64 x.1, .int .i64 x.2]).cell 1
  have HW := hid hw0
  have HK := hid hK
  clear hK hw0
  replace ha := ha.box HW.out
  replace hb := hb.box HW.out
  have HA := hid ha
  have HB := hid hb
  have q1 : sz a ≤ 1000000000 := by omega
  have q2 : sz b ≤ 1000000000 := by omega
  have b1 := ht_le_sz a
  have b2 := ht_le_sz b
  have h0' : ¬ (ht b : Int) + 1 < (ht a : Int) := by omega
  have h' : ¬ (ht a : Int) + 1 < (ht b : Int) := by omega
  clear ha hb
  go_enter Try.func43, Try.ntmps43
  go_wp2_with fail
  rw [← HK.out, ← HW.out]
  refine (height_any HA.out).mono ?_; rintro e w' ⟨rfl, rfl⟩
  go_wp2_with fail
  refine (height_any HB.out).mono ?_; rintro e w' ⟨rfl, rfl⟩
  go_wp2_with fail
  refine (height_any HB.out).mono ?_; rintro e w' ⟨rfl, rfl⟩
  go_wp2_with fail
  refine (height_any HA.out).mono ?_; rintro e w' ⟨rfl, rfl⟩
  go_wp2_with fail
  refine (tree_any HA.out HB.out q1 q2).mono ?_; rintro e w' ⟨vt, rfl, hT, hb2⟩
  go_wp2
  go_ret
  exact ⟨_, rfl, hT, (by repeat (first | exact B0.out | exact Below.refl _ _ | refine Bl.call ?_ (by assumption) | refine Bl.qt ?_ (by assumption) | refine Bl.qt ?_ (qt_drew _) | refine Bl.qt ?_ (qt_of _ _)))⟩
theorem around_said (n : Nat) : AroundSaid n := by
  induction n using Nat.strongRecOn with
  | _ n ih =>
    intro va vb a b x w hn ha hb hs
    by_cases h0 : ht b + 1 < ht a
    · cases a with
      | nil => simp [ht] at h0
      | node aa ax ab => exact around_l ih hn ha hb hs h0
    · by_cases h : ht a + 1 < ht b
      · cases b with
        | nil => simp [ht] at h
        | node ba bx bb => exact around_r ih hn ha hb hs h0 h
      · exact around_m ha hb hs h0 h
theorem around_any {va vb : Option Addr} {a b : Tr (Int × Int)} {x : Int × Int} {w : World} (ha : IsTr w w.heap.size va a) (hb : IsTr w w.heap.size vb b) (hs : sz a + sz b ≤ 10000000) :
    Calls Try.prog 43 #[.pointer va, .agg #[.int .u64 x.1, .int .i64 x.2], .pointer vb] w (TrPost w (around a x b)) := around_said _ va vb a b x w rfl ha hb hs

/-- What At answers. -/
def AtPost (w : World) (z : Int × Int) (ok : Bool) (e : Ending) (w' : World) : Prop := e = .returned (.tuple #[.agg #[.int .u64 z.1, .int .i64 z.2], .bool ok]) ∧ Below w.heap.size w w'
set_option maxRecDepth 100000 in
theorem at_in {v : Option Addr} {t : Tr (Int × Int)} {w : World} {i : Nat} (h : IsTr w w.heap.size v t) (hi : i < sz t) (hs : sz t ≤ 1000000000) :
    Calls Try.prog 33 #[.pointer v, .int .i64 i] w (AtPost w ((atT t i).getD (0, 0)) true) := by
  obtain ⟨K, hK⟩ : ∃ K, K = w.heap.size := ⟨_, rfl⟩
  obtain ⟨w0, hw0⟩ : ∃ w0, w0 = w.alloc (.cells #[.int .u64 0, .int .i64 0] 71) := ⟨_, rfl⟩
  have B0 : Hid (Below w.heap.size w w0) := hid (by rw [hw0]; exact bel_new w _)
  have hB : Blk w0 K 71 [.int .u64 0, .int .i64 0] := by rw [hw0, hK]; exact Blk.new w _ _
  have HBk := hid hB
  replace h := h.box hw0
  have H := hid h
  have HW := hid hw0
  have HK := hid hK
  clear hK hw0 hB
  have hi' : ¬ (sz t : Int) ≤ (i : Int) := by omega
  have hi0 : ¬ (i : Int) < 0 := by omega
  have hi1 : decide ((i : Int) < 0) = false := decide_eq_false hi0
  have hi2 : decide ((sz t : Int) ≤ (i : Int)) = false := decide_eq_false hi'
  have hi3 : ¬ sz t ≤ i := by omega
  have hi4 : decide (sz t ≤ i) = false := decide_eq_false hi3
  obtain ⟨r, hr⟩ : ∃ r, r = (atT t i).getD (0, 0) := ⟨_, rfl⟩
  rw [← hr]
  have HR := hid hr
  clear h hr
  go_enter Try.func33, Try.ntmps33
  go_wp2_with fail
  rw [← HK.out, ← HW.out]
  refine (len_any H.out).mono ?_; rintro e w' ⟨rfl, rfl⟩
  go_wp2_with fail
  go_loopg [0, 1] (sz t) (fun gk p i wr => ∃ (u : Tr (Int × Int)) (q : Option Addr) (j : Nat), p = .pointer q ∧ i = .int .i64 j ∧ IsTr w0 w0.heap.size q u ∧ j < sz u ∧ gk = sz u ∧ sz u ≤ 1000000000 ∧ Hid ((atT u j).getD (0, 0) = r) ∧ wr = w0)
  case atStart => exact ⟨t, v, i, rfl, rfl, H.out, hi, rfl, hs, HR.out.symm, rfl⟩
  case round =>
    obtain ⟨u, q, j, rfl, rfl, hu, hj, rfl, hsu, hat, rfl⟩ := hrel
    cases u with
    | nil => simp [sz] at hj
    | node a x b =>
      obtain ⟨k, pa, pb, rfl, hlt, c0, c1, c2, c2', c3, c4, hpa, hpb⟩ := hu
      have HPA := hid hpa
      have HPB := hid hpb
      have hat' := hat.out
      rw [atT] at hat'
      have HAT := hid hat'
      have hsz : Hid (sz (.node a x b) = sz a + 1 + sz b) := hid rfl
      have hj' := hj
      have hsu' := hsu
      rw [hsz.out] at hj' hsu'
      clear hpa hpb hat hat' c3 c4 hj hsu H HR hs
      rcases Nat.lt_trichotomy j (sz a) with hc | hc | hc
      · have e1 : (j : Int) < (sz a : Int) := by omega
        go_wp2_with fail
        refine (len_any HPA.out).mono ?_; rintro e w' ⟨rfl, rfl⟩
        go_wp2
        go_roundg (sz a)
        case measure => rw [hsz.out]; omega
        case rel => exact ⟨a, pa, j, rfl, rfl, HPA.out, hc, rfl, by omega, by have := HAT.out; rwa [if_pos hc] at this, rfl⟩
      · have e1 : ¬ (j : Int) < (sz a : Int) := by omega
        have e2 : ¬ (sz a : Int) < (j : Int) := by omega
        have hr' := HAT.out
        rw [if_neg (by omega), if_pos hc] at hr'
        have hr2 : x = r := by simpa using hr'
        subst hr2
        clear hr' HAT hc
        have z0 : wr.cell? ⟨K, 0, none⟩ = some (.int .u64 0) := HBk.out.cell 0
        have z1 : wr.cell? ⟨K, 1, none⟩ = some (.int .i64 0) := HBk.out.cell 1
        have f0 : wr.frozen? ⟨K, 0, none⟩ = false := HBk.out.frozen 0
        have f1 : wr.frozen? ⟨K, 1, none⟩ = false := HBk.out.frozen 1
        go_wp2_with fail
        refine (len_any HPA.out).mono ?_; rintro e w' ⟨rfl, rfl⟩
        go_wp2
        have hP := ((HBk.out.put 0 (.int .u64 x.1)).put 1 (.int .i64 x.2))
        have g0 := hP.cell 0
        have g1 := hP.cell 1
        have hBe : Below w.heap.size w ((wr.setCell ⟨K, 0, none⟩ (.int .u64 x.1)).setCell ⟨K, 1, none⟩ (.int .i64 x.2)) := (B0.out.setCell (by rw [HK.out]; exact Nat.le_refl _) _).setCell (by rw [HK.out]; exact Nat.le_refl _) _
        clear hP z0 z1 f0 f1
        generalize (wr.setCell ⟨K, 0, none⟩ (.int .u64 x.1)).setCell ⟨K, 1, none⟩ (.int .i64 x.2) = w9 at *
        exact bodyPost_ret (v := .tuple #[.agg #[.int .u64 x.1, .int .i64 x.2], .bool true]) (by simp [results, Try.results33, go_sem, g0, g1]) rfl ⟨rfl, hBe⟩
      · have e1 : ¬ (j : Int) < (sz a : Int) := by omega
        have e2 : (sz a : Int) < (j : Int) := by omega
        have hr' := HAT.out
        rw [if_neg (by omega), if_neg (by omega)] at hr'
        have HX := hid hr'
        clear hr' HAT
        go_wp2_with fail
        refine (len_any HPA.out).mono ?_; rintro e w' ⟨rfl, rfl⟩
        go_wp2
        go_roundg (sz b)
        case measure => rw [hsz.out]; omega
        case rel => exact ⟨b, pb, j - sz a - 1, rfl, by go_num, HPB.out, by omega, rfl, by omega, HX.out, rfl⟩
set_option maxRecDepth 100000 in
theorem at_out {v : Option Addr} {t : Tr (Int × Int)} {w : World} {i : Int} (h : IsTr w w.heap.size v t) (hi : i < 0 ∨ (sz t : Int) ≤ i) :
    Calls Try.prog 33 #[.pointer v, .int .i64 i] w (AtPost w (0, 0) false) := by
  have H := hid (h.new (.cells #[.int .u64 0, .int .i64 0] 71))
  clear h
  by_cases h0 : i < 0
  · go_enter Try.func33, Try.ntmps33
    go_wp2_with fail
    exact bodyPost_ret (v := .tuple #[.agg #[.int .u64 0, .int .i64 0], .bool false]) (by simp [results, Try.results33, go_sem]) rfl ⟨rfl, Bl.new (bel_new w _) _⟩
  · have h1 : (sz t : Int) ≤ i := by omega
    clear hi
    go_enter Try.func33, Try.ntmps33
    go_wp2_with fail
    refine (len_any H.out).mono ?_; rintro e w' ⟨rfl, rfl⟩
    go_wp2_with fail
    exact bodyPost_ret (v := .tuple #[.agg #[.int .u64 0, .int .i64 0], .bool false]) (by simp [results, Try.results33, go_sem]) rfl ⟨rfl, Bl.new (bel_new w _) _⟩
end Go.Proofs.Ytcbedngimgkcoaa
