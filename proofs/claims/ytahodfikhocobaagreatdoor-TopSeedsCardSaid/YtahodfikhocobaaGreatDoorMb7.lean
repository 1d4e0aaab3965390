/- The texts TpU, TpV, TpW, TpX, merged. No theorem here is a claim by itself. -/
import Derived.Test.YtahodfikhocobaaGreatDoorMb6
import Derived.Deep.Cut
import Derived.Deep.DeepCutAuto
import Derived.Lib.AppendZerosOnto
import Derived.Deep.RegionHeld3
namespace Go.Proofs.YtahodfikhocobaaGreatDoor
open Go.RowKit
set_option linter.unusedVariables false
set_option linter.unusedSimpArgs false
attribute [local go_sem ↓] Go.wp_at_zero Go.wp_at_succ
section
variable {n L R : Nat} {hs : List (Nat × Nat)} {es : List (Int × Int × Int)} {vh ve : Value} {w : World}
set_option maxHeartbeats 4000000 in
set_option maxRecDepth 100000 in
theorem shas_ok (hm : GM w vh ve hs es) (hp : GP n L R hs es) {t v : Int} (a1 : 0 ≤ t) (a2 : t < (L : Int)) (a3 : 0 ≤ v) (a4 : v < (n : Int)) :
  Calls Tryz.prog 21 #[grV n L R vh ve, .int .i64 t, .int .i64 v] w fun e w' => e = .returned (.bool true) ∧ Below w.heap.size w w' := by
 obtain ⟨A1, c1, A2, c2, rfl, rfl⟩ := hm.lit
 unfold grV
 obtain ⟨KG, hKG⟩ : ∃ K, K = w.heap.size := ⟨_, rfl⟩
 obtain ⟨w1, hw1⟩ : ∃ W, W = w.alloc (.cells #[.int .i64 (n : Int), .int .i64 (L : Int), .int .i64 (R : Int), .slice A1 hs.length c1, .slice A2 es.length c2] 28) := ⟨_, rfl⟩
 have HB : Hid (Below w.heap.size w w1) := hid (by rw [hw1]; exact bel_new _ _)
 have DG : Hid (Blk w1 KG 28 [.int .i64 (n : Int), .int .i64 (L : Int), .int .i64 (R : Int), .slice A1 hs.length c1, .slice A2 es.length c2]) := hid (by rw [hw1, hKG]; exact Blk.new _ _ _)
 have GM1 : Hid (GM w1 (.slice A1 hs.length c1) (.slice A2 es.length c2) hs es) := hid (by rw [hw1]; exact hm.new _)
 have HP := hid hp
 have HW := hid hw1
 have HKG := hid hKG
 have hn12 : n ≤ 12 := hp.n2
 have hL4 : L ≤ 4 := hp.l2
 have hR3 : R ≤ 3 := hp.r2
 clear hm hp hw1 hKG
 have g0 := DG.out.cell 0
 have g1 := DG.out.cell 1
 have g2 := DG.out.cell 2
 have g3 := DG.out.cell 3
 have g4 := DG.out.cell 4
 go_enter Tryz.func21, Tryz.ntmps21
 go_wp2_with fail
 rw [← HW.out, ← HKG.out]
 refine (sright_gp GM1.out HP.out).mono ?_; rintro e w2 ⟨rfl, b2⟩
 have HB2 := hid (Bl.call HB.out b2)
 have DG2 := hid (DG.out.below b2 DG.out.lt)
 clear b2 g0 g1 g2 g3 g4
 have g0 := DG2.out.cell 0
 have g1 := DG2.out.cell 1
 go_wp2
 go_ret
 exact ⟨rfl, HB2.out⟩
set_option maxHeartbeats 4000000 in
set_option maxRecDepth 100000 in
theorem sTree_ok (hm : GM w vh ve hs es) (hp : GP n L R hs es) {t v : Int} (a1 : 0 ≤ t) (a2 : t ≤ (L : Int)) (a3 : 0 ≤ v) (a4 : v < (n : Int)) :
  Calls Tryz.prog 7 #[grV n L R vh ve, .int .i64 t, .int .i64 v] w (TreePost (Tp.treeL n es t v) w) := by
 obtain ⟨A1, c1, A2, c2, rfl, rfl⟩ := hm.lit
 unfold grV
 obtain ⟨KG, hKG⟩ : ∃ K, K = w.heap.size := ⟨_, rfl⟩
 obtain ⟨w1, hw1⟩ : ∃ W, W = w.alloc (.cells #[.int .i64 (n : Int), .int .i64 (L : Int), .int .i64 (R : Int), .slice A1 hs.length c1, .slice A2 es.length c2] 28) := ⟨_, rfl⟩
 have HB : Hid (Below w.heap.size w w1) := hid (by rw [hw1]; exact bel_new _ _)
 have DG : Hid (Blk w1 KG 28 [.int .i64 (n : Int), .int .i64 (L : Int), .int .i64 (R : Int), .slice A1 hs.length c1, .slice A2 es.length c2]) := hid (by rw [hw1, hKG]; exact Blk.new _ _ _)
 have GM1 : Hid (GM w1 (.slice A1 hs.length c1) (.slice A2 es.length c2) hs es) := hid (by rw [hw1]; exact hm.new _)
 have HP := hid hp
 have HW := hid hw1
 have HKG := hid hKG
 have hn12 : n ≤ 12 := hp.n2
 have hL4 : L ≤ 4 := hp.l2
 have hR3 : R ≤ 3 := hp.r2
 clear hm hp hw1 hKG
 have g0 := DG.out.cell 0
 have g1 := DG.out.cell 1
 have g2 := DG.out.cell 2
 have g3 := DG.out.cell 3
 have g4 := DG.out.cell 4
 have a5 : ¬ (L : Int) < t := by omega
 have a6 : ¬ t < 0 := by omega
 have a7 : ¬ v < 0 := by omega
 have a8 : ¬ (n : Int) ≤ v := by omega
 go_enter Tryz.func7, Tryz.ntmps7
 go_wp2_with fail
 rw [← HW.out, ← HKG.out]
 refine (sright_gp GM1.out HP.out).mono ?_; rintro e w2 ⟨rfl, b2⟩
 have HB2 := hid (Bl.call HB.out b2)
 have DG2 := hid (DG.out.below b2 DG.out.lt)
 have GM2 := hid (GM1.out.call b2)
 clear b2 g0 g1 g2 g3 g4
 have g0 := DG2.out.cell 0
 have g1 := DG2.out.cell 1
 have g2 := DG2.out.cell 2
 have g3 := DG2.out.cell 3
 have g4 := DG2.out.cell 4
 go_wp2_with fail
 refine (stree_ok GM2.out HP.out a2).mono ?_; rintro e w3 ⟨v3, rfl, s3, b3⟩
 have HS3 := hid s3
 have HB3 := hid (Bl.call HB2.out b3)
 clear s3 b3
 go_wp2
 go_ret
 exact ⟨v3, rfl, HS3.out, HB3.out⟩
def DrPost (R V : Nat) (ws : List Nat) (w : World) (e : Ending) (w' : World) : Prop := ∃ v, e = .returned (.agg #[.int .i64 (R : Int), .int .i64 (V : Int), v]) ∧ Sl w' w'.heap.size 1 v (R * V) (us ws) ∧ Below w.heap.size w w'
theorem wsP_next (hl : List (Nat × Nat)) (R V : Nat) {l : List (Int × Int × Int)} {i : Nat} (h : i < l.length) : Tp.wsP hl R V (Pt.uv (l.take (i + 1))) = Sk.tog hl V (Tp.nmP (l[i].1, l[i].2.1)) (Tp.wsP hl R V (Pt.uv (l.take i))) := by
 have := nmsL_next h
 unfold nmsL at this
 unfold Tp.wsP
 rw [this, Sk.togs_snoc]
theorem nmP_small {x y : Int} (h1 : 0 ≤ x) (h2 : x < y) (h3 : y ≤ 2000) : Tp.nmP (x, y) < 18446744073709551616 := by unfold Tp.nmP; simp; omega
theorem wsP_small (hl : List (Nat × Nat)) (R V : Nat) {l : List (Int × Int × Int)} (hin : ∀ e ∈ l, 0 ≤ e.1 ∧ e.1 < e.2.1 ∧ e.2.1 ≤ 2000) : Sk.Small (Tp.wsP hl R V (Pt.uv l)) := by
 unfold Tp.wsP
 refine Sk.small_togs (fun x hx => ?_) (Sk.small_rep _)
 obtain ⟨p, hp, rfl⟩ := List.mem_map.1 hx
 obtain ⟨e, he, rfl⟩ := Tp.uv_mem.1 hp
 obtain ⟨h1, h2, h3⟩ := hin e he
 exact nmP_small h1 h2 h3
theorem us_apart {w : World} {b o K m c : Nat} {T : TypeId} {r v x : Int} {A : Option Addr} (hc : w.cell? ⟨b, o, none⟩ = some (.int .u64 x)) (hb : Blk w K T [.int .i64 r, .int .i64 v, .slice A m c]) : b ≠ K := by
 rintro rfl
 rw [hb.cell] at hc
 match o, hc with
 | 0, hc => simp at hc
 | 1, hc => simp at hc
 | 2, hc => simp at hc
 | o + 3, hc => simp at hc
theorem Sl.skset {w : World} {n K m c : Nat} {T : TypeId} {r v' : Int} {A : Option Addr} {v : Value} {xs : List Nat} (h : Sl w w.heap.size 1 v n (us xs)) (hb : Blk w K T [.int .i64 r, .int .i64 v', .slice A m c]) (x y z : Value) :
  Sl (((w.setCell ⟨K, 0, none⟩ x).setCell ⟨K, 1, none⟩ y).setCell ⟨K, 2, none⟩ z) (((w.setCell ⟨K, 0, none⟩ x).setCell ⟨K, 1, none⟩ y).setCell ⟨K, 2, none⟩ z).heap.size 1 v n (us xs) := by
 have hl : xs.length = n := by have := h.len; rw [len_us] at this; omega
 obtain ⟨A, c, rfl, hnc, hcm, hll, hx⟩ := h
 refine ⟨A, c, rfl, hnc, hcm, hll, fun h0 => ?_⟩
 obtain ⟨b, o, rfl, hlt, hc⟩ := hx h0
 have h1 := us_cell hc (k := 0) (by omega)
 have hne := us_apart h1 hb
 refine ⟨b, o, rfl, by simpa [World.setCell] using hlt, fun j u hu => ?_⟩
 rw [World.cell?_of_block (Below.heap_setCell _ ⟨K, 2, none⟩ z b hne), World.cell?_of_block (Below.heap_setCell _ ⟨K, 1, none⟩ y b hne), World.cell?_of_block (Below.heap_setCell _ ⟨K, 0, none⟩ x b hne)]
 exact hc j u hu
theorem Sl.hkset {w : World} {n K m c : Nat} {T : TypeId} {r v' : Int} {A : Option Addr} {v : Value} {l : List (Nat × Nat)} (h : Sl w w.heap.size 2 v n (hcs l)) (hb : Blk w K T [.int .i64 r, .int .i64 v', .slice A m c]) (x y z : Value) :
  Sl (((w.setCell ⟨K, 0, none⟩ x).setCell ⟨K, 1, none⟩ y).setCell ⟨K, 2, none⟩ z) (((w.setCell ⟨K, 0, none⟩ x).setCell ⟨K, 1, none⟩ y).setCell ⟨K, 2, none⟩ z).heap.size 2 v n (hcs l) := by
 have hl : l.length = n := by have := h.len; rw [len_hcs] at this; omega
 obtain ⟨A, c, rfl, hnc, hcm, hll, hx⟩ := h
 refine ⟨A, c, rfl, hnc, hcm, hll, fun h0 => ?_⟩
 obtain ⟨b, o, rfl, hlt, hc⟩ := hx h0
 have h1 := (hcs_cell hc (k := 0) (by omega)).1
 have hne := us_apart h1 hb
 refine ⟨b, o, rfl, by simpa [World.setCell] using hlt, fun j u hu => ?_⟩
 rw [World.cell?_of_block (Below.heap_setCell _ ⟨K, 2, none⟩ z b hne), World.cell?_of_block (Below.heap_setCell _ ⟨K, 1, none⟩ y b hne), World.cell?_of_block (Below.heap_setCell _ ⟨K, 0, none⟩ x b hne)]
 exact hc j u hu
theorem cell_set3 {w : World} {K b i : Nat} {u x y z : Value} (hne : K ≠ b) (h : w.cell? ⟨K, i, none⟩ = some u) : (((w.setCell ⟨b, 0, none⟩ x).setCell ⟨b, 1, none⟩ y).setCell ⟨b, 2, none⟩ z).cell? ⟨K, i, none⟩ = some u := by
 rw [← h]
 unfold World.cell?
 rw [Below.heap_setCell _ _ _ _ hne, Below.heap_setCell _ _ _ _ hne, Below.heap_setCell _ _ _ _ hne]
set_option maxHeartbeats 8000000 in
set_option maxRecDepth 100000 in
theorem sdrawn_ok (hm : GM w vh ve hs es) (hp : GP n L R hs es) {t : Nat} (ht : t < L) {vo : Value} {m : Nat} {out : List (Int × Int × Int)} (ho : Sl w w.heap.size 3 vo m (eds out)) (hin : ∀ e ∈ out, 0 ≤ e.1 ∧ e.1 < e.2.1 ∧ e.2.1 ≤ 2000) (hmm : m ≤ 1000000) :
    Calls Tryz.prog 24 #[grV n L R vh ve, .int .i64 (t : Int), vo] w (DrPost R (lvl n) (Tp.wsP (Tp.hsOf hs R t) R (lvl n) (Pt.uv out)) w) := by
  have hlo : out.length = m := by have := ho.len; rw [len_eds] at this; omega
  obtain ⟨Ao, co, rfl, hnco, hcmo, hllo, hxo⟩ := ho
  have HO : Hid (Sl w w.heap.size 3 (.slice Ao m co) m (eds out)) := hid ⟨Ao, co, rfl, hnco, hcmo, hllo, hxo⟩
  have HLO := hid hlo
  have HIN := hid hin
  have HMM := hid hmm
  have HT := hid ht
  obtain ⟨V, hV⟩ : ∃ V, V = lvl n := ⟨_, rfl⟩
  rw [← hV]
  have hV1 : 1 ≤ V ∧ V ≤ 10 := by rw [hV]; exact lvl_bd n
  have LV : Hid (∀ w : World, Calls Tryz.prog 50 #[.int .i64 (n : Int)] w fun e w' => e = .returned (.int .i64 (V : Int)) ∧ w = w') := hid (fun w => by rw [hV]; exact levels_any hp.n1 hp.n2 w)
  have hR1 := hp.r1
  have hSZ : SzOk (R : Int) (V : Int) := by have := hp.r2; unfold SzOk; omega
  obtain ⟨N, hN⟩ : ∃ N, N = R * V := ⟨_, rfl⟩
  have hRV : (R : Int) * (V : Int) = (N : Int) := by rw [hN]; simp
  have hN2 : N ≤ 488 := by rw [hN]; exact Nat.le_trans (Nat.mul_le_mul hp.r2 hV1.2) (by decide)
  have HSZ := hid hSZ
  have HRV := hid hRV
  have HN := hid hN
  have HN2 := hid hN2
  clear hnco hcmo hllo hxo hlo hin hmm ht hV hSZ hN hRV hR1 hN2 hV1
  obtain ⟨A1, c1, A2, c2, rfl, rfl⟩ := hm.lit
  unfold grV
  obtain ⟨KG, hKG⟩ : ∃ K, K = w.heap.size := ⟨_, rfl⟩
  obtain ⟨w1, hw1⟩ : ∃ W, W = w.alloc (.cells #[.int .i64 (n : Int), .int .i64 (L : Int), .int .i64 (R : Int), .slice A1 hs.length c1, .slice A2 es.length c2] 28) := ⟨_, rfl⟩
  have HB : Hid (Below w.heap.size w w1) := hid (by rw [hw1]; exact bel_new _ _)
  have DG : Hid (Blk w1 KG 28 [.int .i64 (n : Int), .int .i64 (L : Int), .int .i64 (R : Int), .slice A1 hs.length c1, .slice A2 es.length c2]) := hid (by rw [hw1, hKG]; exact Blk.new _ _ _)
  have GM1 : Hid (GM w1 (.slice A1 hs.length c1) (.slice A2 es.length c2) hs es) := hid (by rw [hw1]; exact hm.new _)
  have HP := hid hp
  have HW := hid hw1
  have HKG := hid hKG
  have hn12 : n ≤ 12 := hp.n2
  have hL4 : L ≤ 4 := hp.l2
  have hR3 : R ≤ 3 := hp.r2
  clear hm hp hw1 hKG
  obtain ⟨w2, hw2⟩ : ∃ W, W = w1.alloc (.cells #[.int .i64 0, .int .i64 0, .slice none 0 0] 62) := ⟨_, rfl⟩
  obtain ⟨K6, hK6⟩ : ∃ K, K = KG + 1 := ⟨_, rfl⟩
  have hsz1 : w1.heap.size = KG + 1 := by rw [HW.out, HKG.out]; simp
  have b12 : Below w1.heap.size w1 w2 := by rw [hw2]; exact bel_new _ _
  replace HB := hid (Bl.call HB.out b12)
  replace DG := hid (DG.out.below b12 DG.out.lt)
  replace GM1 := hid (GM1.out.call b12)
  replace HO := hid (HO.out.call HB.out)
  have D6 : Hid (Blk w2 K6 62 [.int .i64 0, .int .i64 0, .slice none 0 0]) := hid (by rw [hw2, hK6, ← hsz1]; exact Blk.new _ _ _)
  have LO6 : Hid (w.heap.size ≤ K6) := hid (by rw [hK6, HKG.out]; omega)
  have HW2 := hid hw2
  have HK6 := hid hK6
  clear b12 hw2 hK6 hsz1
  go_enter Tryz.func24, Tryz.ntmps24
  go_upto_region 1 with (fail)
  rw [← HW.out, ← HKG.out, ← HK6.out, ← HW2.out]
  go_cut [7] (fun sv wx => ∃ K7 An cn, sv = .pointer (some ⟨K7, 0, none⟩) ∧ Hid (Blk wx K7 62 [.int .i64 (R : Int), .int .i64 (V : Int), .slice An N cn] ∧ w2.heap.size ≤ K7) ∧ Hid (Sl wx wx.heap.size 1 (.slice An N cn) N (us (List.replicate N 0))) ∧ Hid (Below w2.heap.size w2 wx))
  case first =>
    have g0 := DG.out.cell 0
    have g2 := DG.out.cell 2
    have x0 := cell_later (bel_new w2 (.cells #[.int .i64 0, .int .i64 0, .slice none 0 0] 62)) g0
    have x2 := cell_later (bel_new w2 (.cells #[.int .i64 0, .int .i64 0, .slice none 0 0] 62)) g2
    have hgl := DG.out.lt
    have nk0 : KG ≠ w2.heap.size := by omega
    go_region_held3 (fun w' => w'.cell? ⟨KG, 0, none⟩ = some (.int .i64 (n : Int)) ∧ w'.cell? ⟨KG, 2, none⟩ = some (.int .i64 (R : Int)))
      (first | go_keep | (go_split_ands; and_intros <;> (first | (exact alloc_swap _ nk5 (by assumption)) | (refine cell_set3 nk0 ?_; first | assumption | (refine cell_later (by assumption) ?_; assumption)) | (refine cell_later (by assumption) ?_; first | assumption | (rw [Qt.cell (qt_of _ _)]; assumption) | (rw [Qt.cell (qt_drew _)]; assumption)) | (refine cell_later (bel_new _ _) ?_; assumption) | (rw [Qt.cell (by assumption)]; first | assumption | (rw [Qt.cell (qt_of _ _)]; assumption) | (rw [Qt.cell (qt_drew _)]; assumption)))))
      (first | (go_at_call 50; (with_reducible refine (LV.out _).mono ?_); rintro e w' ⟨rfl, rfl⟩)
             | (go_at_call 49; (with_reducible refine (snew_ok (r := (R : Int)) (v := (V : Int)) (N := N) HSZ.out HRV.out HN2.out _).mono ?_); rintro e w5 ⟨v5, rfl, s5, b5⟩; obtain ⟨An, cn, hv5, _, _, _, _⟩ := id s5; subst hv5; obtain ⟨hc5, hf5⟩ := bcell b5; have hz5 := b5.size; (try simp at hz5); (try (have hz5' : w2.heap.size < w5.heap.size := by omega)); have nk5 : w5.heap.size ≠ KG := by omega))
    all_goals
      go_wp2_with fail
      go_meet
      first
        | exact ⟨w5.heap.size, An, cn, rfl, hid ⟨Blk.new w5 62 [.int .i64 (R : Int), .int .i64 (V : Int), .slice An N cn], by omega⟩, hid (s5.new _), hid (Bl.new (Bl.call (Bl.qt (Below.refl _ _) (qt_drew _)) b5) _)⟩
        | exact ⟨w2.heap.size, An, cn, rfl, hid ⟨(((((Blk.new w2 62 [.int .i64 0, .int .i64 0, .slice none 0 0]).on (qt_drew _).bel).on b5).put 0 (.int .i64 (R : Int))).put 1 (.int .i64 (V : Int))).put 2 (.slice An N cn), Nat.le_refl _⟩,
            hid (s5.skset (((Blk.new w2 62 [.int .i64 0, .int .i64 0, .slice none 0 0]).on (qt_drew _).bel).on b5) _ _ _),
            hid ((((Bl.call (Bl.qt (bel_new w2 _) (qt_drew _)) b5).setCell (p := ⟨w2.heap.size, 0, none⟩) (Nat.le_refl _) _).setCell (p := ⟨w2.heap.size, 1, none⟩) (Nat.le_refl _) _).setCell (p := ⟨w2.heap.size, 2, none⟩) (Nat.le_refl _) _)⟩
  case rest =>
    obtain ⟨K7, An, cn, rfl, HD7, HS7, HB7⟩ := hcut
    have HB7' := HB7.out
    have hlt6 := D6.out.lt
    have NE67 : Hid (K6 ≠ K7) := hid (by have := HD7.out.2; omega)
    have LO7 : Hid (w.heap.size ≤ K7) := hid (by have := HD7.out.2; have := HB.out.size; omega)
    replace D6 := hid (D6.out.below HB7' D6.out.lt)
    replace DG := hid (DG.out.below HB7' DG.out.lt)
    replace GM1 := hid (GM1.out.call HB7')
    replace HO := hid (HO.out.call HB7')
    replace HB := hid (Bl.call HB.out HB7')
    have D7 := hid HD7.out.1
    clear HD7 HB7 HB7' hlt6
    have g0 := DG.out.cell 0
    have g1 := DG.out.cell 1
    have g2 := DG.out.cell 2
    have g3 := DG.out.cell 3
    have g4 := DG.out.cell 4
    go_wp2_with fail
    refine (shashes_ok GM1.out HP.out HT.out).mono ?_; rintro e w4 ⟨v4, rfl, s4, b4⟩
    clear g0 g1 g2 g3 g4
    have HH := hid s4
    replace D6 := hid (D6.out.below b4 D6.out.lt)
    replace D7 := hid (D7.out.below b4 D7.out.lt)
    replace HO := hid (HO.out.call b4)
    replace HS7 := hid (HS7.out.call b4)
    replace HB := hid (Bl.call HB.out b4)
    clear s4 b4 DG GM1
    go_wp2_with fail
    refine (cnames_any HO.out HIN.out HMM.out).mono ?_; rintro e w5 ⟨v5, rfl, s5, b5⟩
    have HNm := hid s5
    replace D6 := hid (D6.out.below b5 D6.out.lt)
    replace D7 := hid (D7.out.below b5 D7.out.lt)
    replace HS7 := hid (HS7.out.call b5)
    replace HH := hid (HH.out.call b5)
    replace HB := hid (Bl.call HB.out b5)
    clear s5 b5 HO
    rw [HLO.out] at HNm
    obtain ⟨A5, c5, rfl, hnc5, hcm5, _, _⟩ := id HNm.out
    have hm5 : m ≤ 9223372036854775807 := by unfold maxLen at hcm5; omega
    obtain ⟨hl, hhl⟩ : ∃ hl, hl = Tp.hsOf hs R t := ⟨_, rfl⟩
    have HSM : Hid (∀ h ∈ hl, HSmall h) := hid (by
      intro h hh
      rw [hhl] at hh
      have := HP.out.hh h (List.mem_of_mem_drop (List.mem_of_mem_take hh))
      unfold HSmall; omega)
    rw [← hhl] at HH ⊢
    have HSOK : Hid (SOk (R : Int) (V : Int) N) := hid ⟨HSZ.out, HRV.out.symm⟩
    have HT0 : Hid (Sl w5 w5.heap.size 1 (.slice An N cn) N (us (Tp.wsP hl R V (Pt.uv (out.take 0))))) := hid (by
      have := HS7.out
      rw [HN.out] at this ⊢
      exact this)
    have HHL := hid hhl
    clear hhl hnc5 hcm5 HS7
    go_wp2_with fail
    go_loopw [29] (fun iv wr => ∃ (i : Nat) (An : Option Addr) (cn : Nat), iv = .int .i64 (i : Int) ∧ i ≤ m ∧ Hid (Blk wr K7 62 [.int .i64 (R : Int), .int .i64 (V : Int), .slice An N cn]) ∧ Hid (Sl wr wr.heap.size 1 (.slice An N cn) N (us (Tp.wsP hl R V (Pt.uv (out.take i))))) ∧ Hid (Sl wr wr.heap.size 2 v4 R (hcs hl)) ∧ Hid (Sl wr wr.heap.size 1 (.slice A5 m c5) m (us (nmsL out))) ∧ Hid (Blk wr K6 62 [.int .i64 0, .int .i64 0, .slice none 0 0]) ∧ Hid (Below w.heap.size w wr)) (fun iv _ => m - (intOf iv).toNat)
    case atStart => exact ⟨0, An, cn, rfl, Nat.zero_le _, D7, HT0, HH, HNm, D6, HB⟩
    case round =>
      clear D7 HT0 HH D6 HB
      obtain ⟨i, An, cn, rfl, hi, D7, HT, HH, HNw, D6, HB⟩ := hrel
      by_cases hlt : i < m
      · have j0 : (i : Int) < (m : Int) := by omega
        have hil : i < out.length := by rw [HLO.out]; exact hlt
        obtain ⟨A', c', e1, _, _, _, hx⟩ := HNw.out
        injection e1 with e1 e2 e3
        subst e1 e3
        clear e2
        obtain ⟨b, o, rfl, hbb, hc⟩ := hx (by omega)
        have c0 := us_cell hc (k := i) (by rw [len_nmsL]; exact hil)
        have hgd : (nmsL out).getD i 0 = Tp.nmP (out[i].1, out[i].2.1) := by simp [nmsL, Pt.uv, List.getD, hil]
        rw [hgd] at c0
        obtain ⟨q1, q2, q3⟩ := HIN.out out[i] (List.getElem_mem hil)
        have HNN := hid (nmP_small q1 q2 q3)
        have HNX := hid (wsP_next hl R V hil)
        have SW : Hid (Sk.Small (Tp.wsP hl R V (Pt.uv (out.take i)))) := hid (wsP_small hl R V (fun e he => HIN.out e (List.mem_of_mem_take he)))
        generalize Tp.nmP (out[i].1, out[i].2.1) = nz at *
        generalize Tp.wsP hl R V (Pt.uv (out.take i)) = ws at *
        clear hx hc hgd q1 q2 q3 hil
        have k0 := D7.out.cell 0
        have k1 := D7.out.cell 1
        have k2 := D7.out.cell 2
        go_wp2_with fail
        refine (toggle_ok (R := R) (V := V) (N := N) (n := nz) (l := hl) (xs := ws) HSOK.out HT.out HH.out HNN.out SW.out HSM.out).mono ?_; rintro e w6 ⟨v6, rfl, s6, b6⟩
        clear k0 k1 k2 c0
        obtain ⟨At, ct, rfl, _, _, _, _⟩ := id s6
        have S6 := hid s6
        replace D7 := hid (D7.out.on b6)
        replace D6 := hid (D6.out.on b6)
        replace HH := hid (HH.out.call b6)
        replace HNw := hid (HNw.out.call b6)
        replace HB := hid (Bl.call HB.out b6)
        clear s6 b6 HT
        have k0 := D7.out.cell 0
        have k1 := D7.out.cell 1
        have k2 := D7.out.cell 2
        have f0 := D7.out.frozen 0
        have f1 := D7.out.frozen 1
        have f2 := D7.out.frozen 2
        obtain ⟨w7, hw⟩ : ∃ z, z = ((w6.setCell ⟨K7, 0, none⟩ (.int .i64 (R : Int))).setCell ⟨K7, 1, none⟩ (.int .i64 (V : Int))).setCell ⟨K7, 2, none⟩ (.slice At N ct) := ⟨_, rfl⟩
        have S7 : Hid (Sl w7 w7.heap.size 1 (.slice At N ct) N (us (Tp.wsP hl R V (Pt.uv (out.take (i + 1)))))) := hid (by rw [HNX.out, hw]; exact S6.out.skset D7.out _ _ _)
        have HH7 : Hid (Sl w7 w7.heap.size 2 v4 R (hcs hl)) := hid (by rw [hw]; exact HH.out.hkset D7.out _ _ _)
        have HN7 : Hid (Sl w7 w7.heap.size 1 (.slice (some ⟨b, o, none⟩) m c5) m (us (nmsL out))) := hid (by rw [hw]; exact HNw.out.skset D7.out _ _ _)
        have D67 : Hid (Blk w7 K6 62 [.int .i64 0, .int .i64 0, .slice none 0 0]) := hid (by rw [hw]; exact ((D6.out.far (p := ⟨K7, 0, none⟩) NE67.out _).far (p := ⟨K7, 1, none⟩) NE67.out _).far (p := ⟨K7, 2, none⟩) NE67.out _)
        have HB7 : Hid (Below w.heap.size w w7) := hid (by rw [hw]; exact ((HB.out.setCell (p := ⟨K7, 0, none⟩) LO7.out _).setCell (p := ⟨K7, 1, none⟩) LO7.out _).setCell (p := ⟨K7, 2, none⟩) LO7.out _)
        have D77 : Hid (Blk w7 K7 62 [.int .i64 (R : Int), .int .i64 (V : Int), .slice At N ct]) := hid (by rw [hw]; exact ((D7.out.put 0 (.int .i64 (R : Int))).put 1 (.int .i64 (V : Int))).put 2 (.slice At N ct))
        have HW7 := hid hw
        clear hw S6 HH HNw HB D7 D6
        go_wp2
        rw [← HW7.out]
        go_roundw
        case rel => exact ⟨i + 1, At, ct, by go_num, by omega, D77, S7, HH7, HN7, D67, HB7⟩
        case measure => simp [intOf]; omega
      · have j0 : ¬ (i : Int) < (m : Int) := by omega
        obtain rfl : i = m := by omega
        have HE : Hid (out.take i = out) := hid (List.take_of_length_le (by rw [HLO.out]; exact Nat.le_refl _))
        have k0 := D7.out.cell 0
        have k1 := D7.out.cell 1
        have k2 := D7.out.cell 2
        have f0 := D6.out.frozen 0
        have f1 := D6.out.frozen 1
        have f2 := D6.out.frozen 2
        have p0 := D6.out.cell 0
        have p1 := D6.out.cell 1
        have p2 := D6.out.cell 2
        obtain ⟨w7, hw⟩ : ∃ z, z = ((wr.setCell ⟨K6, 0, none⟩ (.int .i64 (R : Int))).setCell ⟨K6, 1, none⟩ (.int .i64 (V : Int))).setCell ⟨K6, 2, none⟩ (.slice An N cn) := ⟨_, rfl⟩
        have S7 : Hid (Sl w7 w7.heap.size 1 (.slice An N cn) (R * V) (us (Tp.wsP hl R V (Pt.uv out)))) := hid (by rw [← HN.out, hw]; have := HT.out.skset D6.out (.int .i64 (R : Int)) (.int .i64 (V : Int)) (.slice An N cn); rw [HE.out] at this; exact this)
        have D67 : Hid (Blk w7 K6 62 [.int .i64 (R : Int), .int .i64 (V : Int), .slice An N cn]) := hid (by rw [hw]; exact ((D6.out.put 0 (.int .i64 (R : Int))).put 1 (.int .i64 (V : Int))).put 2 (.slice An N cn))
        have HB7 : Hid (Below w.heap.size w w7) := hid (by rw [hw]; exact ((HB.out.setCell (p := ⟨K6, 0, none⟩) LO6.out _).setCell (p := ⟨K6, 1, none⟩) LO6.out _).setCell (p := ⟨K6, 2, none⟩) LO6.out _)
        have HW7 := hid hw
        clear hw
        go_wp2
        rw [← HW7.out]
        clear k0 k1 k2 f0 f1 f2 p0 p1 p2
        have e0 := D67.out.cell 0
        have e1 := D67.out.cell 1
        have e2 := D67.out.cell 2
        exact bodyPost_ret (v := .agg #[.int .i64 (R : Int), .int .i64 (V : Int), .slice An N cn]) (by simp [results, Tryz.results24, go_sem, e0, e1, e2]) rfl ⟨_, rfl, by rw [← HHL.out]; exact S7.out, HB7.out⟩
end
section
variable {n L R : Nat} {hs : List (Nat × Nat)} {es : List (Int × Int × Int)} {vh ve : Value} {w : World}
theorem cut_in (hp : GP n L R hs es) (c : List Int) : ∀ e ∈ Tp.cutL es c, 0 ≤ e.1 ∧ e.1 < e.2.1 ∧ e.2.1 ≤ 2000 := by
 intro e he
 have := hp.gd.tb.1 e (Tp.mem_cut.1 he).1
 have := hp.n2
 unfold Tp.EOk at *; omega
theorem cut_len (hp : GP n L R hs es) (c : List Int) : (Tp.cutL es c).length ≤ 1000000 := by
 have h1 : (Tp.cutL es c).length ≤ es.length := List.length_filter_le _ _
 have := hp.el; omega
theorem run_sk_field (r v : Int) (A : Option Addr) (k c : Nat) (w : World) : (Instr.field 62 (.agg #[.int .i64 r, .int .i64 v, .slice A k c]) 2).run Tryz.prog w = .ok (.slice A k c) w := by kernel_rfl
def WPost (N : Nat) (ws : List Nat) (w : World) (e : Ending) (w' : World) : Prop := ∃ v, e = .returned v ∧ Sl w' w'.heap.size 1 v N (us ws) ∧ Below w.heap.size w w'
set_option maxHeartbeats 8000000 in
set_option maxRecDepth 100000 in
theorem sWords_ok (hm : GM w vh ve hs es) (hp : GP n L R hs es) {t : Nat} {v : Int} (ht : t < L) (a3 : 0 ≤ v) (a4 : v < (n : Int)) :
    Calls Tryz.prog 11 #[grV n L R vh ve, .int .i64 (t : Int), .int .i64 v] w (WPost (R * lvl n) (Tp.wsP (Tp.hsOf hs R t) R (lvl n) (Pt.uv (Tp.cutL es (Tp.treeL n es t v)))) w) := by
  obtain ⟨A1, c1, A2, c2, rfl, rfl⟩ := hm.lit
  unfold grV
  obtain ⟨KG, hKG⟩ : ∃ K, K = w.heap.size := ⟨_, rfl⟩
  obtain ⟨w1, hw1⟩ : ∃ W, W = w.alloc (.cells #[.int .i64 (n : Int), .int .i64 (L : Int), .int .i64 (R : Int), .slice A1 hs.length c1, .slice A2 es.length c2] 28) := ⟨_, rfl⟩
  have HB : Hid (Below w.heap.size w w1) := hid (by rw [hw1]; exact bel_new _ _)
  have DG : Hid (Blk w1 KG 28 [.int .i64 (n : Int), .int .i64 (L : Int), .int .i64 (R : Int), .slice A1 hs.length c1, .slice A2 es.length c2]) := hid (by rw [hw1, hKG]; exact Blk.new _ _ _)
  have GM1 : Hid (GM w1 (.slice A1 hs.length c1) (.slice A2 es.length c2) hs es) := hid (by rw [hw1]; exact hm.new _)
  have HP := hid hp
  have HW := hid hw1
  have HKG := hid hKG
  have hn12 : n ≤ 12 := hp.n2
  have hL4 : L ≤ 4 := hp.l2
  have hR3 : R ≤ 3 := hp.r2
  clear hm hp hw1 hKG
  obtain ⟨cut, hcut⟩ : ∃ c, c = Tp.cutL es (Tp.treeL n es t v) := ⟨_, rfl⟩
  have HIN : Hid (∀ e ∈ cut, 0 ≤ e.1 ∧ e.1 < e.2.1 ∧ e.2.1 ≤ 2000) := hid (by rw [hcut]; exact cut_in HP.out _)
  have HCL : Hid (cut.length ≤ 1000000) := hid (by rw [hcut]; exact cut_len HP.out _)
  have HSC : Hid (∀ {w : World}, GM w (.slice A1 hs.length c1) (.slice A2 es.length c2) hs es → Calls Tryz.prog 22 #[grV n L R (.slice A1 hs.length c1) (.slice A2 es.length c2), .int .i64 (t : Int), .int .i64 v] w (FrsPost w cut)) := hid (fun hm => by rw [hcut]; exact scut_ok hm HP.out (by omega))
  rw [← hcut]
  have HT := hid ht
  have a1 : (0 : Int) ≤ (t : Int) := by omega
  have a2 : (t : Int) < (L : Int) := by omega
  clear hcut ht
  have g0 := DG.out.cell 0
  have g1 := DG.out.cell 1
  have g2 := DG.out.cell 2
  have g3 := DG.out.cell 3
  have g4 := DG.out.cell 4
  have hfld := run_sk_field
  go_enter Tryz.func11, Tryz.ntmps11
  go_wp2_with fail
  rw [← HW.out, ← HKG.out]
  refine (shas_ok GM1.out HP.out a1 a2 a3 a4).mono ?_; rintro e w2 ⟨rfl, b2⟩
  replace HB := hid (Bl.call HB.out b2)
  replace DG := hid (DG.out.below b2 DG.out.lt)
  replace GM1 := hid (GM1.out.call b2)
  clear b2 g0 g1 g2 g3 g4
  have g0 := DG.out.cell 0
  have g1 := DG.out.cell 1
  have g2 := DG.out.cell 2
  have g3 := DG.out.cell 3
  have g4 := DG.out.cell 4
  go_wp2_with fail
  go_region_held3 (fun w' => w'.cell? ⟨KG, 0, none⟩ = some (.int .i64 (n : Int)) ∧ w'.cell? ⟨KG, 1, none⟩ = some (.int .i64 (L : Int)) ∧ w'.cell? ⟨KG, 2, none⟩ = some (.int .i64 (R : Int)) ∧ w'.cell? ⟨KG, 3, none⟩ = some (.slice A1 hs.length c1) ∧ w'.cell? ⟨KG, 4, none⟩ = some (.slice A2 es.length c2))
    (first | go_keep | (go_split_ands; and_intros <;> (first | (refine cell_later (by assumption) ?_; first | assumption | (rw [Qt.cell (qt_of _ _)]; assumption) | (rw [Qt.cell (qt_drew _)]; assumption)) | (refine cell_later (bel_new _ _) ?_; assumption) | (rw [Qt.cell (by assumption)]; first | assumption | (rw [Qt.cell (qt_of _ _)]; assumption) | (rw [Qt.cell (qt_drew _)]; assumption)))))
    (first | (go_at_call 22; (with_reducible refine (HSC.out (by repeat (first | exact GM1.out | refine GM.new ?_ _ | refine GM.cqt ?_ (qt_drew _) | refine GM.cqt ?_ (qt_of _ _) | refine GM.call ?_ (by assumption) | refine GM.cqt ?_ (by assumption)))).mono ?_); rintro e w6 ⟨v6, rfl, s6, b6⟩)
           | (go_at_call 24; (with_reducible refine (sdrawn_ok (n := n) (L := L) (R := R) (hs := hs) (es := es) (vh := .slice A1 hs.length c1) (ve := .slice A2 es.length c2) (t := t) (vo := v6) (m := cut.length) (out := cut) (by repeat (first | exact GM1.out | refine GM.new ?_ _ | refine GM.cqt ?_ (qt_drew _) | refine GM.cqt ?_ (qt_of _ _) | refine GM.call ?_ (by assumption) | refine GM.cqt ?_ (by assumption))) HP.out HT.out (by repeat (first | exact s6 | refine Sl.new ?_ _ | refine Sl.cqt ?_ (qt_drew _) | refine Sl.cqt ?_ (qt_of _ _) | refine Sl.call ?_ (by assumption) | refine Sl.cqt ?_ (by assumption))) HIN.out HCL.out).mono ?_); rintro e w7 ⟨v7, rfl, s7, b7⟩; obtain ⟨A7, c7, hv7, _, _, _, _⟩ := id s7; subst hv7))
  all_goals
    go_wp2
    go_ret
    exact ⟨_, rfl, (by repeat (first | exact s7 | refine Sl.new ?_ _ | refine Sl.cqt ?_ (qt_drew _) | refine Sl.cqt ?_ (qt_of _ _) | refine Sl.call ?_ (by assumption) | refine Sl.cqt ?_ (by assumption))), (by repeat (first | exact HB.out | refine Bl.new ?_ _ | refine Bl.call ?_ (by assumption) | refine Bl.qt ?_ (by assumption) | refine Bl.qt ?_ (qt_drew _) | refine Bl.qt ?_ (qt_of _ _)))⟩
def seV : Option (Int × Int × Int) → Value
 | some e => .tuple #[.agg #[.int .i64 e.1, .int .i64 e.2.1, .int .i64 e.2.2], .bool true]
 | none => .tuple #[.agg #[.int .i64 0, .int .i64 0, .int .i64 0], .bool false]
def SePost (r : Option (Int × Int × Int)) (w : World) (e : Ending) (w' : World) : Prop := e = .returned (seV r) ∧ Below w.heap.size w w'
def found (hl : List (Nat × Nat)) (R V : Nat) (cut : List (Int × Int × Int)) : Option (Int × Int × Int) := (Tp.srP hl R V (Pt.uv cut)).bind fun i => cut[i]?
theorem some_here {α β : Type} {f : α → Option β} {b : β} : ∀ {l : List α} {i : Nat} {x : α}, l[i]? = some x → f x = some b → (∀ j y, j < i → l[j]? = some y → f y = none) → l.findSome? f = some b
 | [], i, x, h, _, _ => by simp at h
 | a :: l, 0, x, h, hf, _ => by simp at h; subst h; simp [List.findSome?_cons, hf]
 | a :: l, i + 1, x, h, hf, hn => by
  have h0 := hn 0 a (by omega) (by simp)
  simp only [List.findSome?_cons, h0]
  exact some_here (i := i) (by simpa using h) hf (fun j y hj hy => hn (j + 1) y (by omega) (by simpa using hy))
theorem some_no {α β : Type} {f : α → Option β} {l : List α} (hn : ∀ (j : Nat) (y : α), l[j]? = some y → f y = none) : l.findSome? f = none := by
 rw [List.findSome?_eq_none_iff]
 intro x hx
 obtain ⟨j, hj⟩ := List.mem_iff_getElem?.1 hx
 exact hn j x hj
theorem tryP_int (ps : List (Int × Int)) (x : Nat) : Tp.tryP ps x = Tp.fiP ps ((x : Int) / 16777216) ((x : Int) % 16777216) := by unfold Tp.tryP; simp
theorem nms_is {ws : List Nat} {i : Nat} (h : i < (Sk.nms ws).length) : Sk.isE ((Sk.nms ws)[i]) = true := by
 have := List.getElem_mem h
 unfold Sk.nms at this
 exact (List.mem_filter.1 this).2
set_option maxHeartbeats 16000000 in
set_option maxRecDepth 100000 in
theorem sSearch_ok (hm : GM w vh ve hs es) (hp : GP n L R hs es) {t : Nat} {v : Int} (ht : t < L) (a3 : 0 ≤ v) (a4 : v < (n : Int)) :
  Calls Tryz.prog 8 #[grV n L R vh ve, .int .i64 (t : Int), .int .i64 v] w (SePost (found (Tp.hsOf hs R t) R (lvl n) (Tp.cutL es (Tp.treeL n es t v))) w) := by
 obtain ⟨A1, c1, A2, c2, rfl, rfl⟩ := hm.lit
 unfold grV
 obtain ⟨KG, hKG⟩ : ∃ K, K = w.heap.size := ⟨_, rfl⟩
 obtain ⟨w1, hw1⟩ : ∃ W, W = w.alloc (.cells #[.int .i64 (n : Int), .int .i64 (L : Int), .int .i64 (R : Int), .slice A1 hs.length c1, .slice A2 es.length c2] 28) := ⟨_, rfl⟩
 have HB : Hid (Below w.heap.size w w1) := hid (by rw [hw1]; exact bel_new _ _)
 have DG : Hid (Blk w1 KG 28 [.int .i64 (n : Int), .int .i64 (L : Int), .int .i64 (R : Int), .slice A1 hs.length c1, .slice A2 es.length c2]) := hid (by rw [hw1, hKG]; exact Blk.new _ _ _)
 have GM1 : Hid (GM w1 (.slice A1 hs.length c1) (.slice A2 es.length c2) hs es) := hid (by rw [hw1]; exact hm.new _)
 have HP := hid hp
 have HW := hid hw1
 have HKG := hid hKG
 have hn12 : n ≤ 12 := hp.n2
 have hL4 : L ≤ 4 := hp.l2
 have hR3 : R ≤ 3 := hp.r2
 clear hm hp hw1 hKG
 obtain ⟨cut, hcut⟩ : ∃ c, c = Tp.cutL es (Tp.treeL n es t v) := ⟨_, rfl⟩
 have HIN : Hid (∀ e ∈ cut, 0 ≤ e.1 ∧ e.1 < e.2.1 ∧ e.2.1 ≤ 2000) := hid (by rw [hcut]; exact cut_in HP.out _)
 have HCL : Hid (cut.length ≤ 1000000) := hid (by rw [hcut]; exact cut_len HP.out _)
 have HSC : Hid (∀ {w : World}, GM w (.slice A1 hs.length c1) (.slice A2 es.length c2) hs es → Calls Tryz.prog 22 #[grV n L R (.slice A1 hs.length c1) (.slice A2 es.length c2), .int .i64 (t : Int), .int .i64 v] w (FrsPost w cut)) := hid (fun hm => by rw [hcut]; exact scut_ok hm HP.out (by omega))
 rw [← hcut]
 obtain ⟨ws, hws⟩ : ∃ ws, ws = Tp.wsP (Tp.hsOf hs R t) R (lvl n) (Pt.uv cut) := ⟨_, rfl⟩
 have HDR : Hid (∀ {w : World} {vo : Value}, GM w (.slice A1 hs.length c1) (.slice A2 es.length c2) hs es → Sl w w.heap.size 3 vo cut.length (eds cut) → Calls Tryz.prog 24 #[grV n L R (.slice A1 hs.length c1) (.slice A2 es.length c2), .int .i64 (t : Int), vo] w (DrPost R (lvl n) ws w)) := hid (fun hm ho => by rw [hws]; exact sdrawn_ok hm HP.out ht ho HIN.out HCL.out)
 have HSW : Hid (Sk.Small ws) := hid (by rw [hws]; exact wsP_small _ _ _ HIN.out)
 obtain ⟨r, hr⟩ : ∃ r, r = found (Tp.hsOf hs R t) R (lvl n) cut := ⟨_, rfl⟩
 have HR : Hid (r = ((Sk.nms ws).findSome? (Tp.tryP (Pt.uv cut))).bind fun i => cut[i]?) := hid (by rw [hr, hws]; rfl)
 rw [← hr]
 have HSOK : Hid (SOk (R : Int) ((lvl n : Nat) : Int) (R * lvl n)) := hid ⟨by have := lvl_bd n; have := HP.out.r1; unfold SzOk; omega, by simp⟩
 generalize lvl n = V at *
 have a1 : (0 : Int) ≤ (t : Int) := by omega
 have a2 : (t : Int) < (L : Int) := by omega
 clear hcut hws hr ht
 obtain ⟨w2, hw2⟩ : ∃ W, W = w1.alloc (.cells #[.int .i64 0, .int .i64 0, .int .i64 0] 35) := ⟨_, rfl⟩
 obtain ⟨K6, hK6⟩ : ∃ K, K = KG + 1 := ⟨_, rfl⟩
 have hsz1 : w1.heap.size = KG + 1 := by rw [HW.out, HKG.out]; simp
 have b12 : Below w1.heap.size w1 w2 := by rw [hw2]; exact bel_new _ _
 replace HB := hid (Bl.call HB.out b12)
 replace DG := hid (DG.out.below b12 DG.out.lt)
 replace GM1 := hid (GM1.out.call b12)
 have D6 : Hid (Blk w2 K6 35 [.int .i64 0, .int .i64 0, .int .i64 0]) := hid (by rw [hw2, hK6, ← hsz1]; exact Blk.new _ _ _)
 have LO6 : Hid (w.heap.size ≤ K6) := hid (by rw [hK6, HKG.out]; omega)
 have HW2 := hid hw2
 have HK6 := hid hK6
 clear b12 hw2 hK6 hsz1
 have g0 := DG.out.cell 0
 have g1 := DG.out.cell 1
 have g2 := DG.out.cell 2
 have g3 := DG.out.cell 3
 have g4 := DG.out.cell 4
 go_enter Tryz.func8, Tryz.ntmps8
 go_upto_region 1 with (fail)
 rw [← HW.out, ← HKG.out, ← HK6.out, ← HW2.out]
 go_wp2_with fail
 refine (shas_ok GM1.out HP.out a1 a2 a3 a4).mono ?_; rintro e w3 ⟨rfl, b3⟩
 replace HB := hid (Bl.call HB.out b3)
 replace DG := hid (DG.out.below b3 DG.out.lt)
 replace GM1 := hid (GM1.out.call b3)
 replace D6 := hid (D6.out.below b3 D6.out.lt)
 clear b3 g0 g1 g2 g3 g4
 have g0 := DG.out.cell 0
 have g1 := DG.out.cell 1
 have g2 := DG.out.cell 2
 have g3 := DG.out.cell 3
 have g4 := DG.out.cell 4
 go_wp2_with fail
 refine (HSC.out GM1.out).mono ?_; rintro e w4 ⟨v4, rfl, s4, b4⟩
 replace HB := hid (Bl.call HB.out b4)
 replace DG := hid (DG.out.below b4 DG.out.lt)
 replace GM1 := hid (GM1.out.call b4)
 replace D6 := hid (D6.out.below b4 D6.out.lt)
 have SC := hid s4
 clear b4 s4 g0 g1 g2 g3 g4
 have g0 := DG.out.cell 0
 have g1 := DG.out.cell 1
 have g2 := DG.out.cell 2
 have g3 := DG.out.cell 3
 have g4 := DG.out.cell 4
 go_wp2_with fail
 refine (HDR.out GM1.out SC.out).mono ?_; rintro e w5 ⟨v5, rfl, s5, b5⟩
 replace HB := hid (Bl.call HB.out b5)
 replace D6 := hid (D6.out.below b5 D6.out.lt)
 replace SC := hid (SC.out.call b5)
 have SD := hid s5
 clear b5 s5 g0 g1 g2 g3 g4 DG GM1
 go_wp2_with fail
 refine (snames_ok HSOK.out SD.out HSW.out).mono ?_; rintro e w6 ⟨v6, rfl, s6, b6⟩
 replace HB := hid (Bl.call HB.out b6)
 replace D6 := hid (D6.out.below b6 D6.out.lt)
 replace SC := hid (SC.out.call b6)
 have SN := hid s6
 clear b6 s6 SD
 obtain ⟨k, hk⟩ : ∃ k, k = (Sk.nms ws).length := ⟨_, rfl⟩
 have HK := hid hk
 rw [← hk] at SN
 obtain ⟨An, cn, rfl, hncn, hcmn, _, hxn⟩ := id SN.out
 have hmn : k ≤ 9223372036854775807 := by unfold maxLen at hcmn; omega
 obtain ⟨q, hq⟩ : ∃ q, q = cut.length := ⟨_, rfl⟩
 have HQ := hid hq
 rw [← hq] at SC
 obtain ⟨Ac, cc, rfl, hncc, hcmc, _, hxc⟩ := id SC.out
 have hmc : q ≤ 9223372036854775807 := by unfold maxLen at hcmc; omega
 have HXN := hid hxn
 have HXC := hid hxc
 clear hk hq hncn hcmn hxn hncc hcmc hxc
 go_wp2_with fail
 go_loopw [32] (fun iv wr => ∃ i : Nat, iv = .int .i64 (i : Int) ∧ i ≤ k ∧ Hid (∀ j y, j < i → (Sk.nms ws)[j]? = some y → Tp.tryP (Pt.uv cut) y = none) ∧ Hid (Below w6.heap.size w6 wr)) (fun iv _ => k - (intOf iv).toNat)
 case atStart => exact ⟨0, rfl, Nat.zero_le _, hid (fun j y hj => absurd hj (Nat.not_lt_zero _)), hid (Below.refl _ _)⟩
 case round =>
  obtain ⟨i, rfl, hi, HNO, HBr⟩ := hrel
  by_cases hlt : i < k
  ·
   have j0 : (i : Int) < (k : Int) := by omega
   have hil : i < (Sk.nms ws).length := by rw [← HK.out]; exact hlt
   obtain ⟨b, o, rfl, hbb, hc⟩ := HXN.out (by omega)
   have c0 := (HBr.out.cell (p := ⟨b, o + i, none⟩) hbb).trans (us_cell hc hil)
   have hgd : (Sk.nms ws).getD i 0 = (Sk.nms ws)[i] := by simp [List.getD, hil]
   rw [hgd] at c0
   have HE := hid (nms_is hil)
   have hxs : (Sk.nms ws)[i] < 18446744073709551616 := HSW.out _ (List.mem_filter.1 (show (Sk.nms ws)[i] ∈ List.filter Sk.isE ws from List.getElem_mem hil)).1
   have HAT := hid (List.getElem?_eq_getElem hil)
   generalize (Sk.nms ws)[i] = x at *
   have HXS := hid hxs
   clear hc hgd hil hxs
   have SC2 := hid (SC.out.call HBr.out)
   go_wp2_with fail
   refine (ends_yes HXS.out HE.out _).mono ?_; rintro e w' ⟨rfl, rfl⟩
   have HTR := hid (tryP_int (Pt.uv cut) x)
   cases hf : Tp.fiP (Pt.uv cut) ((x : Int) / 16777216) ((x : Int) % 16777216) with
   | none =>
    have HF := hid hf
    rw [hf] at HTR
    clear hf c0
    go_wp2_with fail
    refine (nfind_no SC2.out HF.out).mono ?_; rintro e w7 ⟨rfl, b7⟩
    have HB7 := hid (Bl.call HBr.out b7)
    clear b7
    go_wp2_with fail
    go_roundw
    case rel => exact ⟨i + 1, by go_num, by omega, hid (fun j y hj hy => by
      rcases Nat.lt_or_ge j i with h | h
      · exact HNO.out j y h hy
      ·
       obtain rfl : j = i := by omega
       rw [HAT.out] at hy; injection hy with hy; subst hy; exact HTR.out), HB7⟩
    case measure => simp [intOf]; omega
   | some p =>
    have HF := hid hf
    rw [hf] at HTR
    have hpl : p < cut.length := by
     obtain ⟨z, hz, _⟩ := Tp.fiP_some hf
     have := (List.getElem?_eq_some_iff.1 hz).1
     simpa [Pt.uv] using this
    have HRR : Hid (r = some cut[p]) := hid (by
     rw [HR.out, some_here HAT.out HTR.out HNO.out]
     simp [hpl])
    have hpq : p < q := by rw [HQ.out]; exact hpl
    have hpq2 : (p : Int) < (q : Int) := by omega
    obtain ⟨bc, oc, rfl, hbc, hcc⟩ := HXC.out (by omega)
    obtain ⟨p0, p1, p2⟩ := eds_cell hcc hpl
    clear hf c0
    go_wp2_with fail
    refine (nfind_is SC2.out HF.out).mono ?_; rintro e w7 ⟨rfl, b7⟩
    have HB7 := hid (Bl.call HBr.out b7)
    clear b7
    replace D6 := hid (D6.out.below HB7.out D6.out.lt)
    have q0 := (HB7.out.cell (p := ⟨bc, oc + p * 3, none⟩) hbc).trans p0
    have q1 := (HB7.out.cell (p := ⟨bc, oc + p * 3 + 1, none⟩) hbc).trans p1
    have q2 := (HB7.out.cell (p := ⟨bc, oc + p * 3 + 2, none⟩) hbc).trans p2
    generalize cut[p] = ed at q0 q1 q2 HRR p0 p1 p2
    obtain ⟨x0, y0, t0⟩ := ed
    dsimp only at q0 q1 q2
    have f0 := D6.out.frozen 0
    have f1 := D6.out.frozen 1
    have f2 := D6.out.frozen 2
    have k0 := D6.out.cell 0
    have k1 := D6.out.cell 1
    have k2 := D6.out.cell 2
    obtain ⟨w8, hw⟩ : ∃ z, z = ((w7.setCell ⟨K6, 0, none⟩ (.int .i64 x0)).setCell ⟨K6, 1, none⟩ (.int .i64 y0)).setCell ⟨K6, 2, none⟩ (.int .i64 t0) := ⟨_, rfl⟩
    have D8 : Hid (Blk w8 K6 35 [.int .i64 x0, .int .i64 y0, .int .i64 t0]) := hid (by rw [hw]; exact ((D6.out.put 0 (.int .i64 x0)).put 1 (.int .i64 y0)).put 2 (.int .i64 t0))
    have HB8 : Hid (Below w.heap.size w w8) := hid (by rw [hw]; exact (((Bl.call HB.out HB7.out).setCell (p := ⟨K6, 0, none⟩) LO6.out _).setCell (p := ⟨K6, 1, none⟩) LO6.out _).setCell (p := ⟨K6, 2, none⟩) LO6.out _)
    have HW8 := hid hw
    clear hw p0 p1 p2 hcc hpl
    go_wp2
    rw [← HW8.out]
    clear f0 f1 f2 k0 k1 k2 q0 q1 q2
    have e0 := D8.out.cell 0
    have e1 := D8.out.cell 1
    have e2 := D8.out.cell 2
    exact bodyPost_ret (v := .tuple #[.agg #[.int .i64 x0, .int .i64 y0, .int .i64 t0], .bool true]) (by simp [results, Tryz.results8, go_sem, e0, e1, e2]) rfl ⟨by rw [HRR.out]; rfl, HB8.out⟩
  ·
   have j0 : ¬ (i : Int) < (k : Int) := by omega
   obtain rfl : i = k := by omega
   have HRR : Hid (r = none) := hid (by
    rw [HR.out, some_no (fun j y hy => HNO.out j y (by rw [HK.out]; exact (List.getElem?_eq_some_iff.1 hy).1) hy)]; rfl)
   replace D6 := hid (D6.out.below HBr.out D6.out.lt)
   have f0 := D6.out.frozen 0
   have f1 := D6.out.frozen 1
   have f2 := D6.out.frozen 2
   have k0 := D6.out.cell 0
   have k1 := D6.out.cell 1
   have k2 := D6.out.cell 2
   obtain ⟨w8, hw⟩ : ∃ z, z = ((wr.setCell ⟨K6, 0, none⟩ (.int .i64 0)).setCell ⟨K6, 1, none⟩ (.int .i64 0)).setCell ⟨K6, 2, none⟩ (.int .i64 0) := ⟨_, rfl⟩
   have D8 : Hid (Blk w8 K6 35 [.int .i64 0, .int .i64 0, .int .i64 0]) := hid (by rw [hw]; exact ((D6.out.put 0 (.int .i64 0)).put 1 (.int .i64 0)).put 2 (.int .i64 0))
   have HB8 : Hid (Below w.heap.size w w8) := hid (by rw [hw]; exact (((Bl.call HB.out HBr.out).setCell (p := ⟨K6, 0, none⟩) LO6.out _).setCell (p := ⟨K6, 1, none⟩) LO6.out _).setCell (p := ⟨K6, 2, none⟩) LO6.out _)
   have HW8 := hid hw
   clear hw
   go_wp2
   rw [← HW8.out]
   clear f0 f1 f2 k0 k1 k2
   have e0 := D8.out.cell 0
   have e1 := D8.out.cell 1
   have e2 := D8.out.cell 2
   exact bodyPost_ret (v := .tuple #[.agg #[.int .i64 0, .int .i64 0, .int .i64 0], .bool false]) (by simp [results, Tryz.results8, go_sem, e0, e1, e2]) rfl ⟨by rw [HRR.out]; rfl, HB8.out⟩
end
theorem tvertex_yes {n v : Int} (h1 : 0 ≤ v) (h2 : v < n) (w : World) : Calls Tryz.prog 54 #[.int .i64 n, .int .i64 v] w fun e w' => e = .returned (.bool true) ∧ w = w' := by
 go_enter Tryz.func54, Tryz.ntmps54
 go_wp2
 go_ret
 exact ⟨rfl, rfl⟩
section
variable {ops : Array Oper} {rest : List Oper} {o : Oper} {a : Act} {Q : Exit → Act → World → Prop} {w : World}
theorem wl_run2 (hw : Region.wanted o (yielded ops a.tmps) = true) (s x : Operand) {t tn : TypeId} (hop : o.op = .call { callee := .builtin .append, args := #[s, x], argTypes := #[t, tn] }) {v1 v2 v' : Value} {w' : World} (hs : a.eval s = v1) (hx : a.eval x = v2)
  (hrun : (Builtin.append_ #[t, tn] o.type #[v1, v2]).run Tryz.prog w = .ok v' w') (h : wpList Tryz.prog ops Q rest (a.put o.dst v') w') : wpList Tryz.prog ops Q (o :: rest) a w := by
 refine BigFrame.wpList_want hw fun K hK => ?_
 unfold Oper.wp execOp
 simp only [hop, resolve, invoke, builtin, Sem.run_bind, Sem.run_pure, Result.andThen_ok, List.map_toArray, List.map_cons, List.map_nil, hs, hx, hrun]
 exact hK _ _ h
end
def OwnPost (k : Nat) (l : List (Int × Int × Int)) (w : World) (e : Ending) (w' : World) : Prop := ∃ v, e = .returned v ∧ w'.ownsRow w.heap.size 35 3 v k (eds l) ∧ Below w.heap.size w w'
set_option maxRecDepth 100000 in
set_option maxHeartbeats 4000000 in
theorem egrow_any (k : Nat) (hk : k ≤ 1000000) (w : World) : Calls Tryz.prog 80 #[.slice none 0 0, .int .i64 (k : Int)] w (OwnPost 0 [] w) := by
 have h0 : ¬ (k : Int) < 0 := by omega
 by_cases hk0 : k = 0
 ·
  subst hk0
  go_enter Tryz.func80, Tryz.ntmps80
  go_wp2
  go_ret
  exact ⟨_, rfl, World.ownsRow_nil _ _ _ _, Below.refl _ _⟩
 ·
  obtain ⟨hu, ⟨i, hi, hz, hsz, hby⟩, hzs, hs0, h0b⟩ := Tedg
  have hki : (0 : Int) < (k : Int) := by omega
  have hrun := fun ty => Lib.run_append_grow_zeros (P := Tryz.prog) w 26 3 ty 35 i _ .i64 .i64 hu Tryz.underlying3 hi hz none 0 0 [] (by simp [Builtin.firstCells]) k (by omega) (by rw [hsz]; omega) (by omega) (by omega) (by rw [hby]; omega)
   (by rw [hby]; unfold Builtin.nextslicecap; (try split) <;> (try split) <;> omega)
  obtain ⟨cap, hcap⟩ : ∃ c, c = grownCap w (0 + k) 0 35 := ⟨_, rfl⟩
  have h1 : k ≤ cap := by have := grownCap_ge w (0 + k) 0 35; omega
  have h2 : cap ≤ maxLen := by rw [hcap]; exact grownCap_le_maxLen _ _ _ _ (by unfold maxLen; omega)
  have h3 : cap ≤ 9223372036854775807 := by unfold maxLen at h2; omega
  simp only [← hcap] at hrun
  obtain ⟨cs, hcs⟩ : ∃ cs : Array Value, cs = ([] : List Value).toArray ++ Builtin.zeroCells (Value.agg #[Value.int .i64 0, Value.int .i64 0, Value.int .i64 0]).cells k ++ Builtin.zeroCells (Value.agg #[Value.int .i64 0, Value.int .i64 0, Value.int .i64 0]).cells (cap - (0 + k)) := ⟨_, rfl⟩
  have hsz : cs.size = cap * 3 := by rw [hcs]; simp [size_zeroCells, Value.cells]; omega
  simp only [← hcs] at hrun
  rw [show 0 + k = k by omega] at hrun
  have HO : Hid ((w.drew.alloc (.cells cs 35)).ownsRow w.heap.size 35 3 (.slice (some ⟨w.heap.size, 0, none⟩) 0 cap) 0 (eds [])) := hid (by
   refine ⟨by simp [eds], .inr ⟨w.heap.size, cap, cs, rfl, Nat.le_refl _, ?_, Nat.zero_le _, h2, hsz, by simp [eds]⟩⟩
   have := Blk.new w.drew 35 cs.toList
   unfold Blk at this
   simpa using this)
  have HB : Hid (Below w.heap.size w (w.drew.alloc (.cells cs 35))) := hid (Bl.new (Bl.qt (Below.refl _ _) (qt_drew _)) _)
  clear hcap hcs hsz
  go_enter Tryz.func80, Tryz.ntmps80
  go_wp2_with (at_builtin; (refine wl_run2 rfl _ _ rfl rfl rfl (hrun _) ?_))
  go_wp2
  go_ret
  exact ⟨_, rfl, HO.out, HB.out⟩
def PartsAt (w : World) (vs : List Value) (ls : List (List (Int × Int × Int))) : Prop := ∀ i, (h : i < ls.length) → ∃ A c, vs[i]? = some (.slice A (ls[i]).length c) ∧ Sl w w.heap.size 3 (.slice A (ls[i]).length c) (ls[i]).length (eds ls[i])
theorem flat_next {ls : List (List (Int × Int × Int))} {i : Nat} (h : i < ls.length) : (ls.take (i + 1)).flatten = (ls.take i).flatten ++ ls[i] := by
 rw [List.take_succ_eq_append_getElem h, List.flatten_append]; simp
theorem flat_le (ls : List (List (Int × Int × Int))) (i : Nat) : (ls.take i).flatten.length ≤ ls.flatten.length := by
 have : ls.flatten = (ls.take i).flatten ++ (ls.drop i).flatten := by rw [← List.flatten_append, List.take_append_drop]
 rw [this, List.length_append]; omega
set_option maxRecDepth 100000 in
set_option maxHeartbeats 8000000 in
theorem concat_any {w : World} {K k : Nat} {vs : List Value} {ls : List (List (Int × Int × Int))} (hD : Blk w K 26 vs) (hl : ls.length = k) (hP : PartsAt w vs ls) (ht : ls.flatten.length ≤ 100000) (hk : k ≤ 10) {tot : Nat} (htot : ls.flatten.length = tot) :
  Calls Tryz.prog 55 #[.slice (some ⟨K, 0, none⟩) k k] w (OwnPost tot ls.flatten w) := by
 have HTOT := hid htot
 clear htot
 have HD := hid hD
 have HL := hid hl
 have HP := hid hP
 have HT := hid ht
 clear hD hl hP ht
 go_enter Tryz.func55, Tryz.ntmps55
 go_wp2_with fail
 go_loopw [3, 11] (fun sv iv wr => ∃ (i q : Nat), sv = .int .i64 (q : Int) ∧ iv = .int .i64 (i : Int) ∧ i ≤ k ∧ q ≤ 100000 ∧ Hid (q = (ls.take i).flatten.length) ∧ w = wr) (fun _ iv _ => k - (intOf iv).toNat)
 case atStart => exact ⟨0, 0, rfl, rfl, Nat.zero_le _, Nat.zero_le _, hid rfl, by trivial⟩
 case round =>
  obtain ⟨i, q, rfl, rfl, hi, hq, HQ, rfl⟩ := hrel
  by_cases hlt : i < k
  ·
   have j0 : (i : Int) < (k : Int) := by omega
   have hil : i < ls.length := by rw [HL.out]; exact hlt
   obtain ⟨A, c, hv, hsl⟩ := HP.out i hil
   have c0 : w.cell? ⟨K, i, none⟩ = some (.slice A (ls[i]).length c) := by rw [HD.out.cell]; exact hv
   have hsum : q + (ls[i]).length = (ls.take (i + 1)).flatten.length := by rw [flat_next hil, List.length_append, ← HQ.out]
   have hle := flat_le ls (i + 1)
   have hle2 := HT.out
   have HS := hid hsum
   generalize (ls[i]).length = z at *
   have hz : q + z ≤ 100000 := by omega
   have hz2 : ((q : Int) + (z : Int)) = ((q + z : Nat) : Int) := by simp
   have hz3 : ¬ ((q : Int) + (z : Int) < 0) := by omega
   clear hv hsl hsum hle hle2 hil hz2
   go_wp2_with fail
   go_roundw
   case rel => exact ⟨i + 1, q + z, by go_num, by go_num, by omega, hz, HS, by trivial⟩
   case measure => simp [intOf]; omega
  ·
   have j0 : ¬ (i : Int) < (k : Int) := by omega
   obtain rfl : i = k := by omega
   go_wp2_with fail
   refine (egrow_any q (by omega) _).mono ?_; rintro e w2 ⟨v2, rfl, o2, b2⟩
   have HO2 := hid o2
   have HB2 := hid b2
   clear o2 b2
   go_wp2_with fail
   go_loopw [6, 27] (fun ov iv wr => ∃ (j p : Nat), iv = .int .i64 (j : Int) ∧ j ≤ i ∧ p ≤ 100000 ∧ Hid (p = (ls.take j).flatten.length) ∧ Hid (wr.ownsRow w.heap.size 35 3 ov p (eds (ls.take j).flatten)) ∧ Hid (Below w.heap.size w wr)) (fun _ iv _ => i - (intOf iv).toNat)
   case atStart => exact ⟨0, 0, rfl, Nat.zero_le _, Nat.zero_le _, hid rfl, HO2, HB2⟩
   case round =>
    obtain ⟨j, p, rfl, hj, hp, HPQ, HO, HB⟩ := hrel
    by_cases hjt : j < i
    ·
     have j1 : (j : Int) < (i : Int) := by omega
     have hil : j < ls.length := by rw [HL.out]; exact hjt
     obtain ⟨A, c, hv, hsl⟩ := HP.out j hil
     have c0 : wr.cell? ⟨K, j, none⟩ = some (.slice A (ls[j]).length c) := by
      have := HD.out.below HB.out HD.out.lt
      rw [this.cell]; exact hv
     have HSL := hid (hsl.call HB.out)
     have hsum : p + (ls[j]).length = (ls.take (j + 1)).flatten.length := by rw [flat_next hil, List.length_append, ← HPQ.out]
     have hfl := flat_next hil
     have hle := flat_le ls (j + 1)
     have hle2 := HT.out
     have hz : p + (ls[j]).length ≤ 100000 := by omega
     have HS := hid hsum
     have HFL := hid hfl
     have HSZ := hid HB.out.size
     generalize ls[j] = lj at *
     have hby : (p + lj.length) * 24 ≤ 140737488355328 := by omega
     clear hv hsl hsum hle hle2 hil hfl
     go_wp2_with (at_builtin; (refine wl_app rfl _ _ Tedg rfl rfl HO.out rfl HSL.out (eds_one _) hby HSZ.out ?_))
     intro v9 w9 o9 b9
     have O9 : Hid (w9.ownsRow w.heap.size 35 3 v9 (p + lj.length) (eds (ls.take (j + 1)).flatten)) := hid (by rw [HFL.out, ← eds_app]; exact o9)
     have B9 := hid (HB.out.trans b9)
     clear o9 b9
     go_wp2_with fail
     go_roundw
     case rel => exact ⟨j + 1, p + lj.length, by go_num, by omega, hz, HS, O9, B9⟩
     case measure => simp [intOf]; omega
    ·
     have j1 : ¬ (j : Int) < (i : Int) := by omega
     obtain rfl : j = i := by omega
     have HE : Hid (ls.take j = ls) := hid (List.take_of_length_le (by rw [HL.out]; exact Nat.le_refl _))
     go_wp2
     go_ret
     have HH : Hid (wr.ownsRow w.heap.size 35 3 u6 tot (eds ls.flatten)) := hid (by rw [← HTOT.out]; have h1 := HO.out; have h2 := HPQ.out; rw [HE.out] at h1 h2; subst h2; exact h1)
     refine ⟨u6, rfl, ?_, HB.out⟩
     exact HH.out
theorem eclone_any (v : Value) (n B : Nat) (p : List (Int × Int × Int)) (w : World) (hs : Sl w B 3 v n (eds p)) (hB : B ≤ w.heap.size) (hr : n ≤ 1000000) :
  Calls Tryz.prog 105 #[v] w (OwnPost n p w) := by
 have hs0 := hid hs
 obtain ⟨A, c, rfl, hnc, hcm, hl, hx⟩ := hs
 have heq := fun w => Lib.run_eql_slice_nil (P := Tryz.prog) w 26 35 A n c 0 0 Tryz.underlying26
 cases A with
 | none =>
  have hn : n = 0 := by
   rcases Nat.eq_zero_or_pos n with h | h
   · exact h
   · obtain ⟨_, _, h', _⟩ := hx h; cases h'
  subst hn
  have hp : p = [] := List.eq_nil_of_length_eq_zero (by have := hl; rw [len_eds] at this; omega)
  subst hp
  go_enter Tryz.func105, Tryz.ntmps105
  go_wp2
  go_ret
  exact ⟨_, rfl, World.ownsRow_nil _ _ _ _, Below.refl _ _⟩
 | some ad =>
  clear hx
  go_enter Tryz.func105, Tryz.ntmps105
  go_wp2_with (at_builtin; refine wl_app rfl _ _ Tedg rfl rfl (own_empty w _ _ _ (Nat.le_refl _)) rfl (hs0.out.alloc hB _) (eds_one _) (by omega) (by simp) ?_)
  intro v' w' hown hbel
  go_wp2
  go_ret
  exact ⟨_, rfl, by simpa using hown, ((Below.refl _ _).alloc (Nat.le_refl _) _).trans hbel⟩
def OwnTup (l : List (Int × Int × Int)) (w : World) (e : Ending) (w' : World) : Prop := ∃ v, e = .returned (.tuple #[v, .int .i64 0]) ∧ w'.ownsRow w.heap.size 35 3 v l.length (eds l) ∧ Below w.heap.size w w'
theorem eds_set (l : List (Int × Int × Int)) (i : Nat) (t : Int) : (eds l).set (i * 3 + 2) (.int .i64 t) = eds (l.modify i (fun e => (e.1, e.2.1, t))) := by
 induction l generalizing i with
 | nil => simp [eds]
 | cons e l ih =>
  cases i with
  | zero => simp [eds]
  | succ i =>
   have := ih i
   simp only [eds, List.flatMap_cons, List.modify_succ_cons] at this ⊢
   rw [← this, show (i + 1) * 3 + 2 = (i * 3 + 2) + 3 by omega]
   rfl
theorem own_tier {w : World} {base g n c : Nat} {l : List (Int × Int × Int)} (h : w.ownsRow base 35 3 (.slice (some ⟨g, 0, none⟩) n c) n (eds l)) (i : Nat) (t : Int) :
  (w.setCell ⟨g, i * 3 + 2, none⟩ (.int .i64 t)).ownsRow base 35 3 (.slice (some ⟨g, 0, none⟩) n c) n (eds (l.modify i (fun e => (e.1, e.2.1, t)))) := by
 have := (h.stored (i * 3 + 2) (.int .i64 t)).1
 rwa [eds_set] at this
set_option maxRecDepth 100000 in
set_option maxHeartbeats 8000000 in
theorem tset_ok {n : Int} {v0 : Value} {m : Nat} {l : List (Int × Int × Int)} {u v t : Int} {w : World} (hs : Sl w w.heap.size 3 v0 m (eds l)) (ht : TabR n l) (u1 : 0 ≤ u) (u2 : u < n) (v1 : 0 ≤ v) (v2 : v < n) (t1 : 0 ≤ t) (t2 : t ≤ 16) {i : Nat} (hf : Tp.fiP (Pt.uv l) u v = some i) (hm : m ≤ 1000000) :
  Calls Tryz.prog 83 #[.int .i64 n, v0, .int .i64 u, .int .i64 v, .int .i64 t] w (OwnTup (Tp.setT l u v t) w) := by
 have hl : l.length = m := by have := hs.len; rw [len_eds] at this; omega
 have hil : i < m := by
  obtain ⟨x, hx, _⟩ := Tp.fiP_some hf
  have := (List.getElem?_eq_some_iff.1 hx).1
  rw [← hl]; simpa [Pt.uv] using this
 have HSET : Hid (Tp.setT l u v t = l.modify i (fun e => (e.1, e.2.1, t))) := hid (by unfold Tp.setT; rw [hf])
 have HS := hid hs
 have HT := hid ht
 have HF := hid hf
 have HL := hid hl
 have HM := hid hm
 have j0 : (i : Int) < (m : Int) := by omega
 clear hs ht hf hl hm
 go_enter Tryz.func83, Tryz.ntmps83
 go_wp2_with fail
 refine (tright_is HS.out true ⟨fun _ => rfl, fun _ => HT.out⟩).mono ?_; rintro e w2 ⟨rfl, b2⟩
 have HB2 := hid b2
 have HS2 := hid (HS.out.call b2)
 clear b2
 go_wp2_with fail
 refine (tvertex_yes u1 u2 _).mono ?_; rintro e w' ⟨rfl, rfl⟩
 go_wp2_with fail
 refine (tvertex_yes v1 v2 _).mono ?_; rintro e w' ⟨rfl, rfl⟩
 go_wp2_with fail
 refine (tiered_is true ⟨fun _ => rfl, fun _ => ⟨t1, t2⟩⟩ _).mono ?_; rintro e w' ⟨rfl, rfl⟩
 go_wp2_with fail
 refine (nfind_is HS2.out HF.out).mono ?_; rintro e w3 ⟨rfl, b3⟩
 have HB3 := hid (Bl.call HB2.out b3)
 have HS3 := hid (HS2.out.call b3)
 clear b3
 go_wp2_with fail
 refine (eclone_any _ _ _ _ _ HS3.out (Nat.le_refl _) HM.out).mono ?_; rintro e w4 ⟨v4, rfl, o4, b4⟩
 have HB4 := hid (Bl.call HB3.out b4)
 obtain ⟨g, c, rfl, hg1, hg2⟩ := own_form o4 (by omega)
 have HO4 := hid o4
 have HG : Hid (w.heap.size ≤ g) := hid (by have := HB3.out.size; omega)
 have hc0 : w4.cell? ⟨g, i * 3 + 2, none⟩ = some (.int .i64 ((l[i]'(by rw [HL.out]; exact hil)).2.2)) := by
  have e := eds_at l i (by rw [HL.out]; exact hil)
  have h := o4.cellAt (i * 3 + 2) (by omega)
  rw [h]; exact e.2.2
 have hfz := o4.frozenAt (i * 3 + 2)
 have HOS := hid (own_more (own_tier o4 i t) HB3.out.size)
 have HBS : Hid (Below w.heap.size w (w4.setCell ⟨g, i * 3 + 2, none⟩ (.int .i64 t))) := hid (HB4.out.setCell (p := ⟨g, i * 3 + 2, none⟩) HG.out _)
 clear o4 b4 hg1 hg2
 go_wp2
 go_ret2
 exact ⟨_, rfl, by rw [HSET.out, List.length_modify, HL.out]; exact HOS.out, HBS.out⟩
def GrPost (d : Int × Int × Int) (w : World) (e : Ending) (w' : World) : Prop := e = .returned (.tuple #[.agg #[.int .i64 d.1, .int .i64 d.2.1, .int .i64 d.2.2], .bool true]) ∧ Below w.heap.size w w'
theorem greatest_nil (w : World) : Calls Tryz.prog 82 #[.slice none 0 0] w fun e w' => e = .returned (.tuple #[.agg #[.int .i64 0, .int .i64 0, .int .i64 0], .bool false]) ∧ Below w.heap.size w w' := by
 have D8 : Blk (w.alloc (.cells #[.int .i64 0, .int .i64 0, .int .i64 0] 35)) w.heap.size 35 [.int .i64 0, .int .i64 0, .int .i64 0] := Blk.new _ _ _
 have HB := hid (bel_new w (.cells #[.int .i64 0, .int .i64 0, .int .i64 0] 35))
 go_enter Tryz.func82, Tryz.ntmps82
 go_wp2
 have e0 := D8.cell 0
 have e1 := D8.cell 1
 have e2 := D8.cell 2
 exact bodyPost_ret (v := .tuple #[.agg #[.int .i64 0, .int .i64 0, .int .i64 0], .bool false]) (by simp [results, Tryz.results82, go_sem, e0, e1, e2]) rfl ⟨rfl, HB.out⟩
theorem gt_cases (d e : Int × Int × Int) : (Tp.gtB d e = true ∧ d.2.2 < e.2.2) ∨ (e.2.2 = d.2.2 ∧ Tp.gtB d e = lessE d e) ∨ (Tp.gtB d e = false ∧ e.2.2 < d.2.2) := by
 rcases Int.lt_trichotomy d.2.2 e.2.2 with h | h | h
 · exact .inl ⟨by unfold Tp.gtB; simp [h], h⟩
 ·
  refine .inr (.inl ⟨h.symm, ?_⟩)
  unfold Tp.gtB Tp.lsB lessE
  simp [h]
 ·
  refine .inr (.inr ⟨?_, h⟩)
  unfold Tp.gtB
  have h1 : ¬ d.2.2 < e.2.2 := by omega
  have h2 : ¬ e.2.2 = d.2.2 := by omega
  simp [h1, h2]
theorem eds_drop1 (l : List (Int × Int × Int)) : (eds l).drop (1 * 3) = eds l.tail := by
 cases l with
 | nil => simp [eds]
 | cons a l => simp [eds]
set_option maxRecDepth 100000 in
set_option maxHeartbeats 16000000 in
theorem greatest_any {v0 : Value} {m : Nat} {a : Int × Int × Int} {l : List (Int × Int × Int)} {w : World} (hs : Sl w w.heap.size 3 v0 m (eds (a :: l))) :
  Calls Tryz.prog 82 #[v0] w (GrPost (l.foldl Tp.gre1 a) w) := by
 have hl : (a :: l).length = m := by have := hs.len; rw [len_eds] at this; omega
 have hl2 : m = l.length + 1 := by simpa using hl.symm
 have hql' : l.length = m - 1 := by omega
 obtain ⟨A, c, rfl, hnc, hcm, hll, hx⟩ := hs
 have hm : m ≤ 9223372036854775807 := by unfold maxLen at hcm; omega
 obtain ⟨b0, o0, rfl, hb0, hc0⟩ := hx (by omega)
 have hsl : ∀ w : World, (Instr.slice 26 (.slice (some ⟨b0, o0, none⟩) m c) (some (.int .i64 1)) none none).run Tryz.prog w = .ok (.slice (cutA (some ⟨b0, o0, none⟩) c 1 3) (m - 1) (c - 1)) w := run_drop_of Tedg (some ⟨b0, o0, none⟩) m c 1 (by omega)
 have HSL : Hid (Sl w w.heap.size 3 (.slice (cutA (some ⟨b0, o0, none⟩) c 1 3) (m - 1) (c - 1)) (m - 1) (eds l)) := hid (by
  have h : Sl w w.heap.size 3 (.slice (some ⟨b0, o0, none⟩) m c) m (eds (a :: l)) := ⟨_, _, rfl, hnc, hcm, hll, hx⟩
  have := h.drop (k := 1) (by omega)
  rw [eds_drop1] at this; exact this)
 obtain ⟨p0, p1, p2⟩ := eds_cell hc0 (k := 0) (by simp)
 simp only [Nat.zero_mul, Nat.add_zero, List.getElem_cons_zero] at p0 p1 p2
 obtain ⟨A', hA'⟩ : ∃ A', A' = cutA (some ⟨b0, o0, none⟩) c 1 3 := ⟨_, rfl⟩
 rw [← hA'] at HSL
 simp only [← hA'] at hsl
 obtain ⟨q, hq⟩ : ∃ q, q = m - 1 := ⟨_, rfl⟩
 rw [← hq] at HSL
 simp only [← hq] at hsl
 obtain ⟨x0, y0, t0⟩ := a
 dsimp only at p0 p1 p2
 have hql : Hid (l.length = q) := hid (by rw [hq]; exact hql')
 have hm1 : (0 : Int) < (m : Int) := by omega
 have hm2 : (1 : Int) ≤ (m : Int) := by omega
 have hm0 : ((m : Int) == 0) = false := by simp; omega
 have hqm : q ≤ 9223372036854775807 := by omega
 clear hx hll hcm hnc hc0 hA' hl hl2 hq hql'
 -- the two variables
 obtain ⟨w1, hw1⟩ : ∃ W, W = w.alloc (.cells #[.int .i64 0, .int .i64 0, .int .i64 0] 35) := ⟨_, rfl⟩
 obtain ⟨w2, hw2⟩ : ∃ W, W = w1.alloc (.cells #[.int .i64 x0, .int .i64 y0, .int .i64 t0] 35) := ⟨_, rfl⟩
 obtain ⟨K2, hK2⟩ : ∃ K, K = w.heap.size := ⟨_, rfl⟩
 obtain ⟨K4, hK4⟩ : ∃ K, K = K2 + 1 := ⟨_, rfl⟩
 have hz1 : w1.heap.size = K2 + 1 := by rw [hw1, hK2]; simp
 have D2 : Hid (Blk w2 K2 35 [.int .i64 0, .int .i64 0, .int .i64 0]) := hid (by rw [hw2, hw1, hK2]; exact (Blk.new _ _ _).alloc _)
 have D4 : Hid (Blk w2 K4 35 [.int .i64 x0, .int .i64 y0, .int .i64 t0]) := hid (by rw [hw2, hK4, ← hz1]; exact Blk.new _ _ _)
 have HB : Hid (Below w.heap.size w w2) := hid (by rw [hw2, hw1]; exact Bl.new (bel_new _ _) _)
 have NE : Hid (K2 ≠ K4) := hid (by omega)
 have LO2 : Hid (w.heap.size ≤ K2) := hid (by omega)
 have LO4 : Hid (w.heap.size ≤ K4) := hid (by omega)
 have r0 := cell_later (bel_new w (.cells #[.int .i64 0, .int .i64 0, .int .i64 0] 35)) p0
 have r1 := cell_later (bel_new w (.cells #[.int .i64 0, .int .i64 0, .int .i64 0] 35)) p1
 have r2 := cell_later (bel_new w (.cells #[.int .i64 0, .int .i64 0, .int .i64 0] 35)) p2
 have HW1 := hid hw1
 have HW2 := hid hw2
 have HK2 := hid hK2
 have HK4 := hid hK4
 clear hw1 hw2 hK2 hK4 hz1 p0 p1 p2
 go_enter Tryz.func82, Tryz.ntmps82
 go_wp2_with fail
 rw [← HW1.out, ← HW2.out, ← HK2.out, ← HK4.out]
 clear r0 r1 r2 hsl
 go_loopw [17] (fun iv wr => ∃ (i : Nat) (x y t : Int), iv = .int .i64 (i : Int) ∧ i ≤ q ∧ Hid ((x, y, t) = (l.take i).foldl Tp.gre1 (x0, y0, t0)) ∧ Hid (Blk wr K4 35 [.int .i64 x, .int .i64 y, .int .i64 t]) ∧ Hid (Blk wr K2 35 [.int .i64 0, .int .i64 0, .int .i64 0]) ∧ Hid (Below w.heap.size w wr)) (fun iv _ => q - (intOf iv).toNat)
 case atStart => exact ⟨0, x0, y0, t0, rfl, Nat.zero_le _, hid rfl, D4, D2, HB⟩
 case round =>
  clear D4 D2 HB
  obtain ⟨i, x, y, t, rfl, hi, HG, D4, D2, HB⟩ := hrel
  by_cases hlt : i < q
  ·
   have j0 : (i : Int) < (q : Int) := by omega
   have hil : i < l.length := by rw [hql.out]; exact hlt
   obtain ⟨A2, c2, e1, _, _, _, hx⟩ := HSL.out
   injection e1 with e1 e2 e3
   subst e1
   obtain ⟨b6, o6, rfl, hb6, hc6⟩ := hx (by omega)
   obtain ⟨p0, p1, p2⟩ := eds_cell hc6 hil
   have q0 := (HB.out.cell (p := ⟨b6, o6 + i * 3, none⟩) hb6).trans p0
   have q1 := (HB.out.cell (p := ⟨b6, o6 + i * 3 + 1, none⟩) hb6).trans p1
   have q2 := (HB.out.cell (p := ⟨b6, o6 + i * 3 + 2, none⟩) hb6).trans p2
   have HNX : Hid ((l.take (i + 1)).foldl Tp.gre1 (x0, y0, t0) = Tp.gre1 (x, y, t) l[i]) := hid (by rw [List.take_succ_eq_append_getElem hil, List.foldl_append, ← HG.out]; rfl)
   obtain ⟨e, he⟩ : ∃ e, e = l[i] := ⟨_, rfl⟩
   rw [← he] at q0 q1 q2 HNX
   obtain ⟨x', y', t'⟩ := e
   dsimp only at q0 q1 q2
   clear he p0 p1 p2 hc6 hx hil e2 e3
   obtain ⟨wn, hwn⟩ : ∃ W, W = wr.alloc (.cells #[.int .i64 x', .int .i64 y', .int .i64 t'] 35) := ⟨_, rfl⟩
   obtain ⟨KN, hKN⟩ : ∃ K, K = wr.heap.size := ⟨_, rfl⟩
   have DN : Hid (Blk wn KN 35 [.int .i64 x', .int .i64 y', .int .i64 t']) := hid (by rw [hwn, hKN]; exact Blk.new _ _ _)
   have N4 : Hid (K4 ≠ KN) := hid (by have := D4.out.lt; omega)
   have D4n : Hid (Blk wn K4 35 [.int .i64 x, .int .i64 y, .int .i64 t]) := hid (by rw [hwn]; exact D4.out.alloc _)
   have D2n : Hid (Blk wn K2 35 [.int .i64 0, .int .i64 0, .int .i64 0]) := hid (by rw [hwn]; exact D2.out.alloc _)
   have HBn : Hid (Below w.heap.size w wn) := hid (by rw [hwn]; exact Bl.new HB.out _)
   have HWN := hid hwn
   have HKN := hid hKN
   clear hwn hKN
   go_upto_region 7 with (fail)
   rw [← HWN.out, ← HKN.out]
   clear q0 q1 q2
   have s0 := D4n.out.cell 0
   have s1 := D4n.out.cell 1
   have s2 := D4n.out.cell 2
   have u0 := DN.out.cell 0
   have u1 := DN.out.cell 1
   have u2 := DN.out.cell 2
   have setN : ∀ w5 : World, Hid (Blk w5 K4 35 [.int .i64 x, .int .i64 y, .int .i64 t]) → Hid (Blk w5 K2 35 [.int .i64 0, .int .i64 0, .int .i64 0]) → Hid (Below w.heap.size w w5) →
     Hid (Blk (((w5.setCell ⟨K4, 0, none⟩ (.int .i64 x')).setCell ⟨K4, 1, none⟩ (.int .i64 y')).setCell ⟨K4, 2, none⟩ (.int .i64 t')) K4 35 [.int .i64 x', .int .i64 y', .int .i64 t'] ∧ Blk (((w5.setCell ⟨K4, 0, none⟩ (.int .i64 x')).setCell ⟨K4, 1, none⟩ (.int .i64 y')).setCell ⟨K4, 2, none⟩ (.int .i64 t')) K2 35 [.int .i64 0, .int .i64 0, .int .i64 0] ∧ Below w.heap.size w (((w5.setCell ⟨K4, 0, none⟩ (.int .i64 x')).setCell ⟨K4, 1, none⟩ (.int .i64 y')).setCell ⟨K4, 2, none⟩ (.int .i64 t'))) := fun w5 h4 h2 hb =>
    hid ⟨((h4.out.put 0 (.int .i64 x')).put 1 (.int .i64 y')).put 2 (.int .i64 t'), ((h2.out.far (p := ⟨K4, 0, none⟩) NE.out _).far (p := ⟨K4, 1, none⟩) NE.out _).far (p := ⟨K4, 2, none⟩) NE.out _, ((hb.out.setCell (p := ⟨K4, 0, none⟩) LO4.out _).setCell (p := ⟨K4, 1, none⟩) LO4.out _).setCell (p := ⟨K4, 2, none⟩) LO4.out _⟩
   have HSETN := hid setN
   clear setN
   rcases gt_cases (x, y, t) (x', y', t') with ⟨hg, ht⟩ | ⟨ht, hg⟩ | ⟨hg, ht⟩
   ·
    dsimp only at ht
    have HN : Hid ((x', y', t') = (l.take (i + 1)).foldl Tp.gre1 (x0, y0, t0)) := hid (by rw [HNX.out]; unfold Tp.gre1; rw [hg]; rfl)
    have HS := HSETN.out wn D4n D2n HBn
    have f0 := D4n.out.frozen 0
    have f1 := D4n.out.frozen 1
    have f2 := D4n.out.frozen 2
    clear hg
    go_wp2_with fail
    go_roundw
    case rel => exact ⟨i + 1, x', y', t', by go_num, by omega, HN, hid HS.out.1, hid HS.out.2.1, hid HS.out.2.2⟩
    case measure => simp [intOf]; omega
   ·
    dsimp only at ht
    subst ht
    have ht1 : ¬ t' < t' := by omega
    have ht2 : (t' == t') = true := by simp
    cases hls : lessE (x, y, t') (x', y', t') with
    | true =>
     rw [hls] at hg
     have HN : Hid ((x', y', t') = (l.take (i + 1)).foldl Tp.gre1 (x0, y0, t0)) := hid (by rw [HNX.out]; unfold Tp.gre1; rw [hg]; rfl)
     have HLS := hid hls
     clear hls hg
     go_wp2_with fail
     refine (less_is true HLS.out _).mono ?_; rintro e w5 ⟨rfl, b5⟩
     clear s0 s1 s2 u0 u1 u2
     have D45 := hid (D4n.out.on b5)
     have D25 := hid (D2n.out.on b5)
     have DN5 := hid (DN.out.on b5)
     have HB5 := hid (Bl.call HBn.out b5)
     clear b5
     have HS := HSETN.out w5 D45 D25 HB5
     have s0 := D45.out.cell 0
     have s1 := D45.out.cell 1
     have s2 := D45.out.cell 2
     have u0 := DN5.out.cell 0
     have u1 := DN5.out.cell 1
     have u2 := DN5.out.cell 2
     have f0 := D45.out.frozen 0
     have f1 := D45.out.frozen 1
     have f2 := D45.out.frozen 2
     go_wp2_with fail
     go_roundw
     case rel => exact ⟨i + 1, x', y', t', by go_num, by omega, HN, hid HS.out.1, hid HS.out.2.1, hid HS.out.2.2⟩
     case measure => simp [intOf]; omega
    | false =>
     rw [hls] at hg
     have HN : Hid ((x, y, t') = (l.take (i + 1)).foldl Tp.gre1 (x0, y0, t0)) := hid (by rw [HNX.out]; unfold Tp.gre1; rw [hg]; rfl)
     have HLS := hid hls
     clear hls hg
     go_wp2_with fail
     refine (less_is false HLS.out _).mono ?_; rintro e w5 ⟨rfl, b5⟩
     clear s0 s1 s2 u0 u1 u2
     have D45 := hid (D4n.out.on b5)
     have D25 := hid (D2n.out.on b5)
     have HB5 := hid (Bl.call HBn.out b5)
     clear b5
     go_wp2_with fail
     go_roundw
     case rel => exact ⟨i + 1, x, y, t', by go_num, by omega, HN, D45, D25, HB5⟩
     case measure => simp [intOf]; omega
   ·
    dsimp only at ht
    have ht1 : ¬ t < t' := by omega
    have ht2 : (t' == t) = false := by simp; omega
    have HN : Hid ((x, y, t) = (l.take (i + 1)).foldl Tp.gre1 (x0, y0, t0)) := hid (by rw [HNX.out]; unfold Tp.gre1; rw [hg]; rfl)
    clear hg
    go_wp2_with fail
    go_roundw
    case rel => exact ⟨i + 1, x, y, t, by go_num, by omega, HN, D4n, D2n, HBn⟩
    case measure => simp [intOf]; omega
  ·
   have j0 : ¬ (i : Int) < (q : Int) := by omega
   obtain rfl : i = q := by omega
   have HE : Hid ((x, y, t) = l.foldl Tp.gre1 (x0, y0, t0)) := hid (by have := HG.out; rw [List.take_of_length_le (by rw [hql.out]; exact Nat.le_refl _)] at this; exact this)
   have s0 := D4.out.cell 0
   have s1 := D4.out.cell 1
   have s2 := D4.out.cell 2
   have f0 := D2.out.frozen 0
   have f1 := D2.out.frozen 1
   have f2 := D2.out.frozen 2
   have k0 := D2.out.cell 0
   have k1 := D2.out.cell 1
   have k2 := D2.out.cell 2
   obtain ⟨w8, hw⟩ : ∃ z, z = ((wr.setCell ⟨K2, 0, none⟩ (.int .i64 x)).setCell ⟨K2, 1, none⟩ (.int .i64 y)).setCell ⟨K2, 2, none⟩ (.int .i64 t) := ⟨_, rfl⟩
   have D8 : Hid (Blk w8 K2 35 [.int .i64 x, .int .i64 y, .int .i64 t]) := hid (by rw [hw]; exact ((D2.out.put 0 (.int .i64 x)).put 1 (.int .i64 y)).put 2 (.int .i64 t))
   have HB8 : Hid (Below w.heap.size w w8) := hid (by rw [hw]; exact ((HB.out.setCell (p := ⟨K2, 0, none⟩) LO2.out _).setCell (p := ⟨K2, 1, none⟩) LO2.out _).setCell (p := ⟨K2, 2, none⟩) LO2.out _)
   have HW8 := hid hw
   clear hw
   go_wp2
   rw [← HW8.out]
   clear s0 s1 s2 f0 f1 f2 k0 k1 k2
   have e0 := D8.out.cell 0
   have e1 := D8.out.cell 1
   have e2 := D8.out.cell 2
   exact bodyPost_ret (v := .tuple #[.agg #[.int .i64 x, .int .i64 y, .int .i64 t], .bool true]) (by simp [results, Tryz.results82, go_sem, e0, e1, e2]) rfl ⟨by rw [← HE.out], HB8.out⟩
end Go.Proofs.YtahodfikhocobaaGreatDoor
