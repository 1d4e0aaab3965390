/- The texts TpM, TpR, TpN, merged. No theorem here is a claim by itself. -/
import Derived.Test.YtahodfikhocobaaGreatDoorMb8
import Derived.Test.YtahodfikhocobaaGreatDoorMb3
import Derived.Deep.RegionHeld3
namespace Go.Proofs.YtahodfikhocobaaGreatDoor
open Go.RowKit
set_option linter.unusedVariables false
set_option linter.unusedSimpArgs false
attribute [local go_sem ↓] Go.wp_at_zero Go.wp_at_succ
section
variable {n L R : Nat} {hs : List (Nat × Nat)} {es : List (Int × Int × Int)} {vh ve : Value} {w : World}
theorem uv_len {a b : List (Int × Int × Int)} (h : Pt.uv a = Pt.uv b) : a.length = b.length := by
 have := congrArg List.length h
 simpa [Pt.uv] using this
theorem GP.raised (hp : GP n L R hs es) {t : Nat} (ht : t < L) {v : Int} (hv : Pt.InR n v) {S : Nat → List (Int × Int) → Option Nat} (hS : Tp.SOk S) : GP n L R hs (Tp.raisedF n L S es t v) := by
 have hl := hp.l2
 have hlen := uv_len (Tp.raised_uv hp.gd (t := t) (by omega) hv hS)
 exact ⟨hp.n1, hp.n2, hp.l1, hp.l2, hp.r1, hp.r2, hp.hl, hp.hh, hp.gd.raised (by omega) (by omega) hv hS, by rw [hlen]; exact hp.el⟩
theorem GP.mend (hp : GP n L R hs es) {u v : Int} (hu : Pt.InR n u) (hv : Pt.InR n v) {S : Nat → List (Int × Int) → Option Nat} (hS : Tp.SOk S) (T : Nat) (hT : T ≤ L) : GP n L R hs (Tp.mendF n L S es u v T) := by
 have hl := hp.l2
 have hlen := uv_len (Tp.mend_uv hp.gd (by omega) hS hu hv T hT)
 exact ⟨hp.n1, hp.n2, hp.l1, hp.l2, hp.r1, hp.r2, hp.hl, hp.hh, hp.gd.mend (by omega) hS hu hv T (by omega), by rw [hlen]; exact hp.el⟩
theorem GP.add (hp : GP n L R hs es) {u v : Int} (hu : Pt.InR n u) (hv : Pt.InR n v) (huv : u ≠ v) (hf : Tp.fiP (Pt.uv es) u v = none) (hl : es.length ≤ 999) : GP n L R hs (Tp.addF es u v) := by
 refine ⟨hp.n1, hp.n2, hp.l1, hp.l2, hp.r1, hp.r2, hp.hl, hp.hh, hp.gd.add hu hv huv hf (by omega), ?_⟩
 unfold Tp.addF
 have := congrArg List.length (List.takeWhile_append_dropWhile (p := fun e => Tp.lsB e (Tp.newE u v)) (l := es))
 rw [List.length_append] at this ⊢
 rw [List.length_cons]; omega
theorem GP.del (hp : GP n L R hs es) (i : Nat) : GP n L R hs (es.eraseIdx i) := by
 refine ⟨hp.n1, hp.n2, hp.l1, hp.l2, hp.r1, hp.r2, hp.hl, hp.hh, hp.gd.del i, ?_⟩
 have := (List.eraseIdx_sublist es i).length_le
 have := hp.el; omega
set_option maxHeartbeats 32000000 in
set_option maxRecDepth 100000 in
theorem mended_ok (hm : GM w vh ve hs es) (hp : GP n L R hs es) {u v : Int} (u1 : 0 ≤ u) (u2 : u < (n : Int)) (v1 : 0 ≤ v) (v2 : v < (n : Int)) :
  Calls Tryz.prog 30 #[grV n L R vh ve, .int .i64 u, .int .i64 v] w (RaPost n L R vh ve (Tp.mendF n L (Tp.Sof hs R (lvl n) L) es u v L) w) := by
 have S0 := hid hm.se
 have SH0 := hid hm.sh
 obtain ⟨A1, c1, A2, c2, rfl, rfl⟩ := hm.lit
 unfold grV
 obtain ⟨KG, hKG⟩ : ∃ K, K = w.heap.size := ⟨_, rfl⟩
 obtain ⟨w1, hw1⟩ : ∃ W, W = w.alloc (.cells #[.int .i64 (n : Int), .int .i64 (L : Int), .int .i64 (R : Int), .slice A1 hs.length c1, .slice A2 es.length c2] 28) := ⟨_, rfl⟩
 have HB : Hid (Below w.heap.size w w1) := hid (by rw [hw1]; exact bel_new _ _)
 have DG : Hid (Blk w1 KG 28 [.int .i64 (n : Int), .int .i64 (L : Int), .int .i64 (R : Int), .slice A1 hs.length c1, .slice A2 es.length c2]) := hid (by rw [hw1, hKG]; exact Blk.new _ _ _)
 have GM1 : Hid (GM w1 (.slice A1 hs.length c1) (.slice A2 es.length c2) hs es) := hid (by rw [hw1]; exact hm.new _)
 have HP := hid hp
 have HW := hid hw1
 have HKG := hid hKG
 have hn12 : n ≤ 12 := hp.n2
 have hL4 : L ≤ 4 := hp.l2
 have hR3 : R ≤ 3 := hp.r2
 clear hm hp hw1 hKG
 obtain ⟨w2, hw2⟩ : ∃ W, W = w1.alloc (.cells #[.int .i64 0, .int .i64 0, .int .i64 0, .slice none 0 0, .slice none 0 0] 28) := ⟨_, rfl⟩
 obtain ⟨K6, hK6⟩ : ∃ K, K = KG + 1 := ⟨_, rfl⟩
 have hsz1 : w1.heap.size = KG + 1 := by rw [HW.out, HKG.out]; simp
 have b12 : Below w1.heap.size w1 w2 := by rw [hw2]; exact bel_new _ _
 replace HB := hid (Bl.call HB.out b12)
 replace DG := hid (DG.out.below b12 DG.out.lt)
 replace GM1 := hid (GM1.out.call b12)
 have D6 : Hid (Blk w2 K6 28 [.int .i64 0, .int .i64 0, .int .i64 0, .slice none 0 0, .slice none 0 0]) := hid (by rw [hw2, hK6, ← hsz1]; exact Blk.new _ _ _)
 have LOG : Hid (w.heap.size ≤ KG) := hid (by rw [HKG.out]; exact Nat.le_refl _)
 have LO6 : Hid (w.heap.size ≤ K6) := hid (by rw [hK6, HKG.out]; omega)
 have NE6 : Hid (K6 ≠ KG) := hid (by omega)
 have HW2 := hid hw2
 have HK6 := hid hK6
 clear b12 hw2 hK6 hsz1
 have OFF6 : Hid (Off K6 (.slice A2 es.length c2)) := hid (S0.out.isOff LO6.out)
 have OFFG : Hid (Off KG (.slice A2 es.length c2)) := hid (S0.out.isOff LOG.out)
 have OFFH : Hid (Off KG (.slice A1 hs.length c1)) := hid (SH0.out.isOff LOG.out)
 obtain ⟨S, hS⟩ : ∃ S, S = Tp.Sof hs R (lvl n) L := ⟨_, rfl⟩
 have HSO : Hid (Tp.SOk S) := hid (by rw [hS]; exact Tp.Sof_ok _ _ _ _)
 have RC : Hid (∀ {w : World} {vh ve : Value} {es : List (Int × Int × Int)} {t : Nat} {v : Int}, GM w vh ve hs es → GP n L R hs es → t < L → 0 ≤ v → v < (n : Int) → Calls Tryz.prog 56 #[grV n L R vh ve, .int .i64 (t : Int), .int .i64 v] w (RaPost n L R vh ve (Tp.raisedF n L S es t v) w)) := hid (fun h1 h2 h3 h4 h5 => by rw [hS]; exact raised_ok h1 h2 h3 h4 h5)
 rw [← hS]
 clear hS
 have HIU : Hid (Pt.InR n u) := hid ⟨u1, u2⟩
 have HIV : Hid (Pt.InR n v) := hid ⟨v1, v2⟩
 obtain ⟨MF, hMF⟩ : ∃ f : Nat → List (Int × Int × Int), f = Tp.mendF n L S es u v := ⟨_, rfl⟩
 have MF0 : Hid (MF 0 = es) := hid (by rw [hMF]; rfl)
 have MFS : Hid (∀ t, MF (t + 1) = Tp.raisedF n L S (Tp.raisedF n L S (MF t) t u) t v) := hid (fun t => by rw [hMF]; rfl)
 have MGP : Hid (∀ t, t ≤ L → GP n L R hs (MF t)) := hid (fun t ht => by rw [hMF]; exact HP.out.mend HIU.out HIV.out HSO.out t ht)
 have MFL : Hid (Tp.mendF n L S es u v L = MF L) := hid (by rw [hMF])
 clear hMF
 have g0 := DG.out.cell 0
 have g1 := DG.out.cell 1
 have g2 := DG.out.cell 2
 have g3 := DG.out.cell 3
 have g4 := DG.out.cell 4
 go_enter Tryz.func30, Tryz.ntmps30
 go_upto_region 1 with (fail)
 rw [← HW.out, ← HKG.out, ← HK6.out, ← HW2.out]
 go_wp2_with fail
 go_loopw [11] (fun iv wr => ∃ (t k : Nat) (A : Option Addr) (c : Nat), iv = .int .i64 (t : Int) ∧ t ≤ L ∧ Hid ((MF t).length = k) ∧ Hid (Blk wr KG 28 [.int .i64 (n : Int), .int .i64 (L : Int), .int .i64 (R : Int), .slice A1 hs.length c1, .slice A k c]) ∧ Hid (Sl wr wr.heap.size 3 (.slice A k c) k (eds (MF t))) ∧ Hid (Sl wr wr.heap.size 2 (.slice A1 hs.length c1) hs.length (hcs hs)) ∧ Hid (Blk wr K6 28 [.int .i64 0, .int .i64 0, .int .i64 0, .slice none 0 0, .slice none 0 0]) ∧ Hid (Off K6 (.slice A k c)) ∧ Hid (Off KG (.slice A k c)) ∧ Hid (∀ K, K < w.heap.size → Off K (.slice A2 es.length c2) → Off K (.slice A k c)) ∧ Hid (Below w.heap.size w wr)) (fun iv _ => L - (intOf iv).toNat)
 case atStart => exact ⟨0, es.length, A2, c2, rfl, Nat.zero_le _, hid (by rw [MF0.out]), DG, hid (by rw [MF0.out]; exact GM1.out.se), hid GM1.out.sh, D6, OFF6, OFFG, hid (fun _ _ h => h), HB⟩
 case round =>
  clear DG GM1 D6 OFF6 OFFG HB g0 g1 g2 g3 g4
  obtain ⟨t, k, A, c, rfl, hti, HK, DG, SE, SH, D6, OFF6, OFFG, OFFN, HB⟩ := hrel
  by_cases hlt : t < L
  case pos =>
   have j0 : (t : Int) < (L : Int) := by omega
   have HPt := hid (MGP.out t (by omega))
   have GMt : Hid (GM wr (.slice A1 hs.length c1) (.slice A k c) hs (MF t)) := hid ⟨SH.out, by rw [show (MF t).length = k from HK.out]; exact SE.out⟩
   have g0 := DG.out.cell 0
   have g1 := DG.out.cell 1
   have g2 := DG.out.cell 2
   have g3 := DG.out.cell 3
   have g4 := DG.out.cell 4
   go_wp2_with fail
   refine (RC.out GMt.out HPt.out hlt u1 u2).mono ?_; rintro e wa1 ⟨va1, rfl, sa, ofa, ba⟩
   clear g0 g1 g2 g3 g4
   obtain ⟨k1, hk1⟩ : ∃ k, (Tp.raisedF n L S (MF t) t u).length = k := ⟨_, rfl⟩
   rw [hk1] at sa
   obtain ⟨Aa1, ca1, hva, _, _, _, _⟩ := id sa
   subst hva
   have HK1 := hid hk1
   have SA := hid sa
   have KGL : KG < wr.heap.size := DG.out.lt
   have K6L : K6 < wr.heap.size := D6.out.lt
   have WL : w.heap.size ≤ wr.heap.size := HB.out.size
   replace OFF6 : Hid (Off K6 (.slice Aa1 k1 ca1)) := hid (ofa _ K6L OFF6.out)
   replace OFFG : Hid (Off KG (.slice Aa1 k1 ca1)) := hid (ofa _ KGL OFFG.out)
   replace OFFN : Hid (∀ K, K < w.heap.size → Off K (.slice A2 es.length c2) → Off K (.slice Aa1 k1 ca1)) := hid (fun K hK h => ofa K (by omega) (OFFN.out K hK h))
   replace DG := hid (DG.out.on ba)
   replace D6 := hid (D6.out.on ba)
   replace SH := hid (SH.out.call ba)
   replace HB := hid (Bl.call HB.out ba)
   clear sa ba ofa GMt SE hk1 KGL K6L WL
   obtain ⟨wb1, hw⟩ : ∃ z, z = (((((wa1.setCell ⟨KG, 0, none⟩ (.int .i64 (n : Int))).setCell ⟨KG, 1, none⟩ (.int .i64 (L : Int))).setCell ⟨KG, 2, none⟩ (.int .i64 (R : Int))).setCell ⟨KG, 3, none⟩ (.slice A1 hs.length c1)).setCell ⟨KG, 4, none⟩ (.slice Aa1 k1 ca1)) := ⟨_, rfl⟩
   have DG2 : Hid (Blk wb1 KG 28 [.int .i64 (n : Int), .int .i64 (L : Int), .int .i64 (R : Int), .slice A1 hs.length c1, .slice Aa1 k1 ca1]) := hid (by rw [hw]; exact put5_blk DG.out)
   have D62 : Hid (Blk wb1 K6 28 [.int .i64 0, .int .i64 0, .int .i64 0, .slice none 0 0, .slice none 0 0]) := hid (by rw [hw]; exact put5_far D6.out NE6.out)
   have HB2 : Hid (Below w.heap.size w wb1) := hid (by rw [hw]; exact put5_bel HB.out LOG.out)
   have SE : Hid (Sl wb1 wb1.heap.size 3 (.slice Aa1 k1 ca1) k1 (eds (Tp.raisedF n L S (MF t) t u))) := hid (by rw [hw]; exact put5_sl SA.out OFFG.out)
   have SH2 : Hid (Sl wb1 wb1.heap.size 2 (.slice A1 hs.length c1) hs.length (hcs hs)) := hid (by rw [hw]; exact put5_sl SH.out OFFH.out)
   have HWB1 := hid hw
   clear hw SA
   have f0 := DG.out.frozen 0
   have f1 := DG.out.frozen 1
   have f2 := DG.out.frozen 2
   have f3 := DG.out.frozen 3
   have f4 := DG.out.frozen 4
   have g0 := DG.out.cell 0
   have g1 := DG.out.cell 1
   have g2 := DG.out.cell 2
   have g3 := DG.out.cell 3
   have g4 := DG.out.cell 4
   go_upto_region 5 with (fail)
   rw [← HWB1.out]
   clear f0 f1 f2 f3 f4
   clear g0 g1 g2 g3 g4
   clear DG D6 HB SH
   have DG := DG2
   have D6 := D62
   have HB := HB2
   have SH := SH2
   clear DG2 D62 HB2 SH2
   replace HPt := hid (HPt.out.raised hlt HIU.out HSO.out)
   have GMt : Hid (GM wb1 (.slice A1 hs.length c1) (.slice Aa1 k1 ca1) hs (Tp.raisedF n L S (MF t) t u)) := hid ⟨SH.out, by rw [show (Tp.raisedF n L S (MF t) t u).length = k1 from HK1.out]; exact SE.out⟩
   have g0 := DG.out.cell 0
   have g1 := DG.out.cell 1
   have g2 := DG.out.cell 2
   have g3 := DG.out.cell 3
   have g4 := DG.out.cell 4
   go_wp2_with fail
   refine (RC.out GMt.out HPt.out hlt v1 v2).mono ?_; rintro e wa2 ⟨va2, rfl, sa, ofa, ba⟩
   clear g0 g1 g2 g3 g4
   obtain ⟨k2, hk2⟩ : ∃ k, (Tp.raisedF n L S (Tp.raisedF n L S (MF t) t u) t v).length = k := ⟨_, rfl⟩
   rw [hk2] at sa
   obtain ⟨Aa2, ca2, hva, _, _, _, _⟩ := id sa
   subst hva
   have HK2 := hid hk2
   have SA := hid sa
   have KGL : KG < wb1.heap.size := DG.out.lt
   have K6L : K6 < wb1.heap.size := D6.out.lt
   have WL : w.heap.size ≤ wb1.heap.size := HB.out.size
   replace OFF6 : Hid (Off K6 (.slice Aa2 k2 ca2)) := hid (ofa _ K6L OFF6.out)
   replace OFFG : Hid (Off KG (.slice Aa2 k2 ca2)) := hid (ofa _ KGL OFFG.out)
   replace OFFN : Hid (∀ K, K < w.heap.size → Off K (.slice A2 es.length c2) → Off K (.slice Aa2 k2 ca2)) := hid (fun K hK h => ofa K (by omega) (OFFN.out K hK h))
   replace DG := hid (DG.out.on ba)
   replace D6 := hid (D6.out.on ba)
   replace SH := hid (SH.out.call ba)
   replace HB := hid (Bl.call HB.out ba)
   clear sa ba ofa GMt SE hk2 KGL K6L WL
   obtain ⟨wb2, hw⟩ : ∃ z, z = (((((wa2.setCell ⟨KG, 0, none⟩ (.int .i64 (n : Int))).setCell ⟨KG, 1, none⟩ (.int .i64 (L : Int))).setCell ⟨KG, 2, none⟩ (.int .i64 (R : Int))).setCell ⟨KG, 3, none⟩ (.slice A1 hs.length c1)).setCell ⟨KG, 4, none⟩ (.slice Aa2 k2 ca2)) := ⟨_, rfl⟩
   have DG2 : Hid (Blk wb2 KG 28 [.int .i64 (n : Int), .int .i64 (L : Int), .int .i64 (R : Int), .slice A1 hs.length c1, .slice Aa2 k2 ca2]) := hid (by rw [hw]; exact put5_blk DG.out)
   have D62 : Hid (Blk wb2 K6 28 [.int .i64 0, .int .i64 0, .int .i64 0, .slice none 0 0, .slice none 0 0]) := hid (by rw [hw]; exact put5_far D6.out NE6.out)
   have HB2 : Hid (Below w.heap.size w wb2) := hid (by rw [hw]; exact put5_bel HB.out LOG.out)
   have SE : Hid (Sl wb2 wb2.heap.size 3 (.slice Aa2 k2 ca2) k2 (eds (Tp.raisedF n L S (Tp.raisedF n L S (MF t) t u) t v))) := hid (by rw [hw]; exact put5_sl SA.out OFFG.out)
   have SH2 : Hid (Sl wb2 wb2.heap.size 2 (.slice A1 hs.length c1) hs.length (hcs hs)) := hid (by rw [hw]; exact put5_sl SH.out OFFH.out)
   have HWB2 := hid hw
   clear hw SA
   have f0 := DG.out.frozen 0
   have f1 := DG.out.frozen 1
   have f2 := DG.out.frozen 2
   have f3 := DG.out.frozen 3
   have f4 := DG.out.frozen 4
   have g0 := DG.out.cell 0
   have g1 := DG.out.cell 1
   have g2 := DG.out.cell 2
   have g3 := DG.out.cell 3
   have g4 := DG.out.cell 4
   go_wp2
   rw [← HWB2.out]
   clear f0 f1 f2 f3 f4
   clear g0 g1 g2 g3 g4
   clear DG D6 HB SH
   have DG := DG2
   have D6 := D62
   have HB := HB2
   have SH := SH2
   clear DG2 D62 HB2 SH2
   rw [← MFS.out] at SE HK2
   go_roundw
   case rel => exact ⟨t + 1, k2, Aa2, ca2, by go_num, by omega, HK2, DG, SE, SH, D6, OFF6, OFFG, OFFN, HB⟩
   case measure => simp [intOf]; omega
  case neg =>
   have j0 : ¬ (t : Int) < (L : Int) := by omega
   obtain rfl : L = t := by omega
   have g0 := DG.out.cell 0
   have g1 := DG.out.cell 1
   have g2 := DG.out.cell 2
   have g3 := DG.out.cell 3
   have g4 := DG.out.cell 4
   have f0 := D6.out.frozen 0
   have f1 := D6.out.frozen 1
   have f2 := D6.out.frozen 2
   have f3 := D6.out.frozen 3
   have f4 := D6.out.frozen 4
   have p0 := D6.out.cell 0
   have p1 := D6.out.cell 1
   have p2 := D6.out.cell 2
   have p3 := D6.out.cell 3
   have p4 := D6.out.cell 4
   obtain ⟨w99, hw⟩ : ∃ z, z = (((((wr.setCell ⟨K6, 0, none⟩ (.int .i64 (n : Int))).setCell ⟨K6, 1, none⟩ (.int .i64 (L : Int))).setCell ⟨K6, 2, none⟩ (.int .i64 (R : Int))).setCell ⟨K6, 3, none⟩ (.slice A1 hs.length c1)).setCell ⟨K6, 4, none⟩ (.slice A k c)) := ⟨_, rfl⟩
   have D8 : Hid (Blk w99 K6 28 [.int .i64 (n : Int), .int .i64 (L : Int), .int .i64 (R : Int), .slice A1 hs.length c1, .slice A k c]) := hid (by rw [hw]; exact put5_blk D6.out)
   have HB8 : Hid (Below w.heap.size w w99) := hid (by rw [hw]; exact put5_bel HB.out LO6.out)
   have SE8 := hid (put5_sl (a := .int .i64 (n : Int)) (b := .int .i64 (L : Int)) (c := .int .i64 (R : Int)) (d := .slice A1 hs.length c1) (e := .slice A k c) SE.out OFF6.out)
   rw [← hw] at SE8
   have HW8 := hid hw
   clear hw
   go_wp2
   rw [← HW8.out]
   clear g0 g1 g2 g3 g4
   clear f0 f1 f2 f3 f4
   clear p0 p1 p2 p3 p4
   have e0 := D8.out.cell 0
   have e1 := D8.out.cell 1
   have e2 := D8.out.cell 2
   have e3 := D8.out.cell 3
   have e4 := D8.out.cell 4
   exact bodyPost_ret (v := .agg #[.int .i64 (n : Int), .int .i64 (L : Int), .int .i64 (R : Int), .slice A1 hs.length c1, .slice A k c]) (by simp [results, Tryz.results30, go_sem, e0, e1, e2, e3, e4]) rfl ⟨_, rfl, by rw [MFL.out, HK.out]; exact SE8.out, OFFN.out, HB8.out⟩
def ActPost (n L R : Nat) (vh ve : Value) (es es' : List (Int × Int × Int)) (w : World) (e : Ending) (w' : World) : Prop :=
 ∃ v' err, e = .returned (.tuple #[.agg #[.int .i64 (n : Int), .int .i64 (L : Int), .int .i64 (R : Int), vh, v'], .int .i64 err]) ∧ (err = 0 ∨ es' = es) ∧ Sl w' w'.heap.size 3 v' es'.length (eds es') ∧ (∀ K, K < w.heap.size → Off K ve → Off K v') ∧ Below w.heap.size w w'
set_option maxHeartbeats 32000000 in
set_option maxRecDepth 100000 in
theorem tInsert_ok (hm : GM w vh ve hs es) (hp : GP n L R hs es) (hel : es.length ≤ 999) (u v : Int) :
  Calls Tryz.prog 16 #[grV n L R vh ve, .int .i64 u, .int .i64 v] w (ActPost n L R vh ve es (Tp.insF n L (Tp.Sof hs R (lvl n) L) es u v) w) := by
 have S0 := hid hm.se
 have SH0 := hid hm.sh
 obtain ⟨A1, c1, A2, c2, rfl, rfl⟩ := hm.lit
 unfold grV
 obtain ⟨KG, hKG⟩ : ∃ K, K = w.heap.size := ⟨_, rfl⟩
 obtain ⟨w1, hw1⟩ : ∃ W, W = w.alloc (.cells #[.int .i64 (n : Int), .int .i64 (L : Int), .int .i64 (R : Int), .slice A1 hs.length c1, .slice A2 es.length c2] 28) := ⟨_, rfl⟩
 have HB : Hid (Below w.heap.size w w1) := hid (by rw [hw1]; exact bel_new _ _)
 have DG : Hid (Blk w1 KG 28 [.int .i64 (n : Int), .int .i64 (L : Int), .int .i64 (R : Int), .slice A1 hs.length c1, .slice A2 es.length c2]) := hid (by rw [hw1, hKG]; exact Blk.new _ _ _)
 have GM1 : Hid (GM w1 (.slice A1 hs.length c1) (.slice A2 es.length c2) hs es) := hid (by rw [hw1]; exact hm.new _)
 have HP := hid hp
 have HW := hid hw1
 have HKG := hid hKG
 have hn12 : n ≤ 12 := hp.n2
 have hL4 : L ≤ 4 := hp.l2
 have hR3 : R ≤ 3 := hp.r2
 clear hm hp hw1 hKG
 obtain ⟨w2, hw2⟩ : ∃ W, W = w1.alloc (.cells #[.int .i64 0, .int .i64 0, .int .i64 0, .slice none 0 0, .slice none 0 0] 28) := ⟨_, rfl⟩
 obtain ⟨K6, hK6⟩ : ∃ K, K = KG + 1 := ⟨_, rfl⟩
 have hsz1 : w1.heap.size = KG + 1 := by rw [HW.out, HKG.out]; simp
 have b12 : Below w1.heap.size w1 w2 := by rw [hw2]; exact bel_new _ _
 replace HB := hid (Bl.call HB.out b12)
 replace DG := hid (DG.out.below b12 DG.out.lt)
 replace GM1 := hid (GM1.out.call b12)
 have D6 : Hid (Blk w2 K6 28 [.int .i64 0, .int .i64 0, .int .i64 0, .slice none 0 0, .slice none 0 0]) := hid (by rw [hw2, hK6, ← hsz1]; exact Blk.new _ _ _)
 have LOG : Hid (w.heap.size ≤ KG) := hid (by rw [HKG.out]; exact Nat.le_refl _)
 have LO6 : Hid (w.heap.size ≤ K6) := hid (by rw [hK6, HKG.out]; omega)
 have NE6 : Hid (K6 ≠ KG) := hid (by omega)
 have HW2 := hid hw2
 have HK6 := hid hK6
 clear b12 hw2 hK6 hsz1
 have OFF6 : Hid (Off K6 (.slice A2 es.length c2)) := hid (S0.out.isOff LO6.out)
 have OFFH : Hid (Off KG (.slice A1 hs.length c1)) := hid (SH0.out.isOff LOG.out)
 have OFFH : Hid (Off KG (.slice A1 hs.length c1)) := hid (SH0.out.isOff LOG.out)
 have OFFG : Hid (Off KG (.slice A2 es.length c2)) := hid (S0.out.isOff LOG.out)
 obtain ⟨S, hS⟩ : ∃ S, S = Tp.Sof hs R (lvl n) L := ⟨_, rfl⟩
 have RC : Hid (∀ {w : World} {vh ve : Value} {es : List (Int × Int × Int)} {u v : Int}, GM w vh ve hs es → GP n L R hs es → 0 ≤ u → u < (n : Int) → 0 ≤ v → v < (n : Int) → Calls Tryz.prog 30 #[grV n L R vh ve, .int .i64 u, .int .i64 v] w (RaPost n L R vh ve (Tp.mendF n L S es u v L) w)) := hid (fun h1 h2 h3 h4 h5 h6 => by rw [hS]; exact mended_ok h1 h2 h3 h4 h5 h6)
 rw [← hS]
 clear hS
 have HEL := hid hel
 have LEN : Hid (es.length ≤ 1000) := hid HP.out.el
 have TAB := hid HP.out.tab
 clear hel
 obtain ⟨es', hes⟩ : ∃ es', es' = Tp.insF n L S es u v := ⟨_, rfl⟩
 rw [← hes]
 have HES := hid hes
 clear hes
 by_cases hin : Pt.InR n u ∧ Pt.InR n v
 case neg =>
  have HEE : Hid (es' = es) := hid (by rw [HES.out]; unfold Tp.insF; rw [if_neg (by intro h; exact hin ⟨h.1, h.2.1⟩)])
  have g0 := DG.out.cell 0
  have g1 := DG.out.cell 1
  have g2 := DG.out.cell 2
  have g3 := DG.out.cell 3
  have g4 := DG.out.cell 4
  go_enter Tryz.func16, Tryz.ntmps16
  go_upto_region 1 with (fail)
  rw [← HW.out, ← HKG.out, ← HK6.out, ← HW2.out]
  go_wp2_with fail
  refine (tfits_is GM1.out HP.out false ⟨fun h => absurd h hin, fun h => by cases h⟩).mono ?_; rintro e w4 ⟨rfl, b4⟩
  clear g0 g1 g2 g3 g4
  replace DG := hid (DG.out.on b4)
  replace D6 := hid (D6.out.on b4)
  replace GM1 := hid (GM1.out.call b4)
  replace HB := hid (Bl.call HB.out b4)
  clear b4
  have SE := hid GM1.out.se
  clear hin
  have g0 := DG.out.cell 0
  have g1 := DG.out.cell 1
  have g2 := DG.out.cell 2
  have g3 := DG.out.cell 3
  have g4 := DG.out.cell 4
  have f0 := D6.out.frozen 0
  have f1 := D6.out.frozen 1
  have f2 := D6.out.frozen 2
  have f3 := D6.out.frozen 3
  have f4 := D6.out.frozen 4
  have p0 := D6.out.cell 0
  have p1 := D6.out.cell 1
  have p2 := D6.out.cell 2
  have p3 := D6.out.cell 3
  have p4 := D6.out.cell 4
  obtain ⟨w99, hw⟩ : ∃ z, z = (((((w4.setCell ⟨K6, 0, none⟩ (.int .i64 (n : Int))).setCell ⟨K6, 1, none⟩ (.int .i64 (L : Int))).setCell ⟨K6, 2, none⟩ (.int .i64 (R : Int))).setCell ⟨K6, 3, none⟩ (.slice A1 hs.length c1)).setCell ⟨K6, 4, none⟩ (.slice A2 es.length c2)) := ⟨_, rfl⟩
  have D8 : Hid (Blk w99 K6 28 [.int .i64 (n : Int), .int .i64 (L : Int), .int .i64 (R : Int), .slice A1 hs.length c1, .slice A2 es.length c2]) := hid (by rw [hw]; exact put5_blk D6.out)
  have HB8 : Hid (Below w.heap.size w w99) := hid (by rw [hw]; exact put5_bel HB.out LO6.out)
  have SE8 := hid (put5_sl (a := .int .i64 (n : Int)) (b := .int .i64 (L : Int)) (c := .int .i64 (R : Int)) (d := .slice A1 hs.length c1) (e := .slice A2 es.length c2) SE.out OFF6.out)
  rw [← hw] at SE8
  have HW8 := hid hw
  clear hw
  go_wp2
  rw [← HW8.out]
  clear g0 g1 g2 g3 g4
  clear f0 f1 f2 f3 f4
  clear p0 p1 p2 p3 p4
  have e0 := D8.out.cell 0
  have e1 := D8.out.cell 1
  have e2 := D8.out.cell 2
  have e3 := D8.out.cell 3
  have e4 := D8.out.cell 4
  exact bodyPost_ret (v := .tuple #[.agg #[.int .i64 (n : Int), .int .i64 (L : Int), .int .i64 (R : Int), .slice A1 hs.length c1, .slice A2 es.length c2], .int .i64 1]) (by simp [results, Tryz.results16, go_sem, e0, e1, e2, e3, e4]) rfl ⟨_, _, rfl, .inr HEE.out, by rw [HEE.out]; exact SE8.out, fun _ _ h => h, HB8.out⟩
 case pos =>
  have HIN := hid hin
  obtain ⟨⟨u1, u2⟩, v1, v2⟩ := hin
  by_cases huv : u = v
  case pos =>
   have HEE : Hid (es' = es) := hid (by rw [HES.out]; unfold Tp.insF; rw [if_neg (by intro h; exact h.2.2.1 huv)])
   subst huv
   have g0 := DG.out.cell 0
   have g1 := DG.out.cell 1
   have g2 := DG.out.cell 2
   have g3 := DG.out.cell 3
   have g4 := DG.out.cell 4
   go_enter Tryz.func16, Tryz.ntmps16
   go_upto_region 1 with (fail)
   rw [← HW.out, ← HKG.out, ← HK6.out, ← HW2.out]
   go_wp2_with fail
   refine (tfits_is GM1.out HP.out true ⟨fun _ => rfl, fun _ => HIN.out⟩).mono ?_; rintro e w4 ⟨rfl, b4⟩
   clear g0 g1 g2 g3 g4
   replace DG := hid (DG.out.on b4)
   replace D6 := hid (D6.out.on b4)
   replace GM1 := hid (GM1.out.call b4)
   replace HB := hid (Bl.call HB.out b4)
   clear b4
   have g0 := DG.out.cell 0
   have g1 := DG.out.cell 1
   have g2 := DG.out.cell 2
   have g3 := DG.out.cell 3
   have g4 := DG.out.cell 4
   go_wp2_with fail
   refine (tadd_loop GM1.out.se TAB.out u1 u2).mono ?_; rintro e w5 ⟨rfl, b5⟩
   clear g0 g1 g2 g3 g4
   replace DG := hid (DG.out.on b5)
   replace D6 := hid (D6.out.on b5)
   replace GM1 := hid (GM1.out.call b5)
   replace HB := hid (Bl.call HB.out b5)
   clear b5
   have SE := hid GM1.out.se
   have g0 := DG.out.cell 0
   have g1 := DG.out.cell 1
   have g2 := DG.out.cell 2
   have g3 := DG.out.cell 3
   have g4 := DG.out.cell 4
   have f0 := D6.out.frozen 0
   have f1 := D6.out.frozen 1
   have f2 := D6.out.frozen 2
   have f3 := D6.out.frozen 3
   have f4 := D6.out.frozen 4
   have p0 := D6.out.cell 0
   have p1 := D6.out.cell 1
   have p2 := D6.out.cell 2
   have p3 := D6.out.cell 3
   have p4 := D6.out.cell 4
   obtain ⟨w99, hw⟩ : ∃ z, z = (((((w5.setCell ⟨K6, 0, none⟩ (.int .i64 (n : Int))).setCell ⟨K6, 1, none⟩ (.int .i64 (L : Int))).setCell ⟨K6, 2, none⟩ (.int .i64 (R : Int))).setCell ⟨K6, 3, none⟩ (.slice A1 hs.length c1)).setCell ⟨K6, 4, none⟩ (.slice A2 es.length c2)) := ⟨_, rfl⟩
   have D8 : Hid (Blk w99 K6 28 [.int .i64 (n : Int), .int .i64 (L : Int), .int .i64 (R : Int), .slice A1 hs.length c1, .slice A2 es.length c2]) := hid (by rw [hw]; exact put5_blk D6.out)
   have HB8 : Hid (Below w.heap.size w w99) := hid (by rw [hw]; exact put5_bel HB.out LO6.out)
   have SE8 := hid (put5_sl (a := .int .i64 (n : Int)) (b := .int .i64 (L : Int)) (c := .int .i64 (R : Int)) (d := .slice A1 hs.length c1) (e := .slice A2 es.length c2) SE.out OFF6.out)
   rw [← hw] at SE8
   have HW8 := hid hw
   clear hw
   go_wp2
   rw [← HW8.out]
   clear g0 g1 g2 g3 g4
   clear f0 f1 f2 f3 f4
   clear p0 p1 p2 p3 p4
   have e0 := D8.out.cell 0
   have e1 := D8.out.cell 1
   have e2 := D8.out.cell 2
   have e3 := D8.out.cell 3
   have e4 := D8.out.cell 4
   exact bodyPost_ret (v := .tuple #[.agg #[.int .i64 (n : Int), .int .i64 (L : Int), .int .i64 (R : Int), .slice A1 hs.length c1, .slice A2 es.length c2], .int .i64 8]) (by simp [results, Tryz.results16, go_sem, e0, e1, e2, e3, e4]) rfl ⟨_, _, rfl, .inr HEE.out, by rw [HEE.out]; exact SE8.out, fun _ _ h => h, HB8.out⟩
  case neg =>
   cases hf : Tp.fiP (Pt.uv es) u v with
   | some i0 =>
    have HEE : Hid (es' = es) := hid (by rw [HES.out]; unfold Tp.insF; rw [if_neg (by intro h; rw [hf] at h; cases h.2.2.2)])
    have HF := hid hf
    have HUV := hid huv
    clear hf huv
    have g0 := DG.out.cell 0
    have g1 := DG.out.cell 1
    have g2 := DG.out.cell 2
    have g3 := DG.out.cell 3
    have g4 := DG.out.cell 4
    go_enter Tryz.func16, Tryz.ntmps16
    go_upto_region 1 with (fail)
    rw [← HW.out, ← HKG.out, ← HK6.out, ← HW2.out]
    go_wp2_with fail
    refine (tfits_is GM1.out HP.out true ⟨fun _ => rfl, fun _ => HIN.out⟩).mono ?_; rintro e w4 ⟨rfl, b4⟩
    clear g0 g1 g2 g3 g4
    replace DG := hid (DG.out.on b4)
    replace D6 := hid (D6.out.on b4)
    replace GM1 := hid (GM1.out.call b4)
    replace HB := hid (Bl.call HB.out b4)
    clear b4
    have g0 := DG.out.cell 0
    have g1 := DG.out.cell 1
    have g2 := DG.out.cell 2
    have g3 := DG.out.cell 3
    have g4 := DG.out.cell 4
    go_wp2_with fail
    refine (tadd_there GM1.out.se TAB.out u1 u2 v1 v2 HUV.out HF.out).mono ?_; rintro e w5 ⟨rfl, b5⟩
    clear g0 g1 g2 g3 g4
    replace DG := hid (DG.out.on b5)
    replace D6 := hid (D6.out.on b5)
    replace GM1 := hid (GM1.out.call b5)
    replace HB := hid (Bl.call HB.out b5)
    clear b5
    have SE := hid GM1.out.se
    have g0 := DG.out.cell 0
    have g1 := DG.out.cell 1
    have g2 := DG.out.cell 2
    have g3 := DG.out.cell 3
    have g4 := DG.out.cell 4
    have f0 := D6.out.frozen 0
    have f1 := D6.out.frozen 1
    have f2 := D6.out.frozen 2
    have f3 := D6.out.frozen 3
    have f4 := D6.out.frozen 4
    have p0 := D6.out.cell 0
    have p1 := D6.out.cell 1
    have p2 := D6.out.cell 2
    have p3 := D6.out.cell 3
    have p4 := D6.out.cell 4
    obtain ⟨w99, hw⟩ : ∃ z, z = (((((w5.setCell ⟨K6, 0, none⟩ (.int .i64 (n : Int))).setCell ⟨K6, 1, none⟩ (.int .i64 (L : Int))).setCell ⟨K6, 2, none⟩ (.int .i64 (R : Int))).setCell ⟨K6, 3, none⟩ (.slice A1 hs.length c1)).setCell ⟨K6, 4, none⟩ (.slice A2 es.length c2)) := ⟨_, rfl⟩
    have D8 : Hid (Blk w99 K6 28 [.int .i64 (n : Int), .int .i64 (L : Int), .int .i64 (R : Int), .slice A1 hs.length c1, .slice A2 es.length c2]) := hid (by rw [hw]; exact put5_blk D6.out)
    have HB8 : Hid (Below w.heap.size w w99) := hid (by rw [hw]; exact put5_bel HB.out LO6.out)
    have SE8 := hid (put5_sl (a := .int .i64 (n : Int)) (b := .int .i64 (L : Int)) (c := .int .i64 (R : Int)) (d := .slice A1 hs.length c1) (e := .slice A2 es.length c2) SE.out OFF6.out)
    rw [← hw] at SE8
    have HW8 := hid hw
    clear hw
    go_wp2
    rw [← HW8.out]
    clear g0 g1 g2 g3 g4
    clear f0 f1 f2 f3 f4
    clear p0 p1 p2 p3 p4
    have e0 := D8.out.cell 0
    have e1 := D8.out.cell 1
    have e2 := D8.out.cell 2
    have e3 := D8.out.cell 3
    have e4 := D8.out.cell 4
    exact bodyPost_ret (v := .tuple #[.agg #[.int .i64 (n : Int), .int .i64 (L : Int), .int .i64 (R : Int), .slice A1 hs.length c1, .slice A2 es.length c2], .int .i64 4]) (by simp [results, Tryz.results16, go_sem, e0, e1, e2, e3, e4]) rfl ⟨_, _, rfl, .inr HEE.out, by rw [HEE.out]; exact SE8.out, fun _ _ h => h, HB8.out⟩
   | none =>
    have HEE : Hid (es' = Tp.mendF n L S (Tp.addF es u v) u v L) := hid (by rw [HES.out]; unfold Tp.insF; rw [if_pos ⟨HIN.out.1, HIN.out.2, huv, hf⟩])
    have HF := hid hf
    have HUV := hid huv
    clear hf
    have AD : Hid (∀ {w : World} {v0 : Value} {m : Nat}, Sl w w.heap.size 3 v0 m (eds es) → m ≤ 1000 → Calls Tryz.prog 34 #[.int .i64 (n : Int), v0, .int .i64 u, .int .i64 v] w (OwnTup (Tp.addF es u v) w)) := hid (fun h hm => by
     rcases Int.lt_trichotomy u v with h1 | h1 | h1
     · exact tadd_lt h TAB.out u1 u2 v1 v2 h1 HF.out hm
     · exact absurd h1 huv
     · exact tadd_gt h TAB.out u1 u2 v1 v2 h1 HF.out hm)
    clear huv
    have g0 := DG.out.cell 0
    have g1 := DG.out.cell 1
    have g2 := DG.out.cell 2
    have g3 := DG.out.cell 3
    have g4 := DG.out.cell 4
    go_enter Tryz.func16, Tryz.ntmps16
    go_upto_region 1 with (fail)
    rw [← HW.out, ← HKG.out, ← HK6.out, ← HW2.out]
    go_wp2_with fail
    refine (tfits_is GM1.out HP.out true ⟨fun _ => rfl, fun _ => HIN.out⟩).mono ?_; rintro e w4 ⟨rfl, b4⟩
    clear g0 g1 g2 g3 g4
    replace DG := hid (DG.out.on b4)
    replace D6 := hid (D6.out.on b4)
    replace GM1 := hid (GM1.out.call b4)
    replace HB := hid (Bl.call HB.out b4)
    clear b4
    have g0 := DG.out.cell 0
    have g1 := DG.out.cell 1
    have g2 := DG.out.cell 2
    have g3 := DG.out.cell 3
    have g4 := DG.out.cell 4
    go_wp2_with fail
    refine (AD.out GM1.out.se LEN.out).mono ?_; rintro e w5 ⟨v5, rfl, o5, b5⟩
    clear g0 g1 g2 g3 g4
    obtain ⟨k5, hk5⟩ : ∃ k, (Tp.addF es u v).length = k := ⟨_, rfl⟩
    rw [hk5] at o5
    obtain ⟨A5, c5, hv5, _, _, _, _⟩ := Sl.of_own o5
    subst hv5
    have HK5 := hid hk5
    have HO := hid o5
    have WL : w.heap.size ≤ w4.heap.size := HB.out.size
    have KGL : KG < w4.heap.size := DG.out.lt
    have K6L : K6 < w4.heap.size := D6.out.lt
    have OFF6' : Hid (Off K6 (.slice A5 k5 c5)) := hid (own_isOff o5 K6L)
    have OFFG' : Hid (Off KG (.slice A5 k5 c5)) := hid (own_isOff o5 KGL)
    have OFFN : Hid (∀ K, K < w.heap.size → Off K (.slice A5 k5 c5)) := hid (fun K hK => own_isOff o5 (by omega))
    replace DG := hid (DG.out.on b5)
    replace D6 := hid (D6.out.on b5)
    replace GM1 := hid (GM1.out.call b5)
    replace HB := hid (Bl.call HB.out b5)
    clear o5 b5 hk5 WL KGL K6L
    obtain ⟨w6, hw⟩ : ∃ z, z = w5.setCell ⟨KG, 4, none⟩ (.slice A5 k5 c5) := ⟨_, rfl⟩
    have SE : Hid (Sl w6 w6.heap.size 3 (.slice A5 k5 c5) k5 (eds (Tp.addF es u v))) := hid (by rw [hw]; exact (Sl.of_own HO.out).off OFFG'.out)
    have SH : Hid (Sl w6 w6.heap.size 2 (.slice A1 hs.length c1) hs.length (hcs hs)) := hid (by rw [hw]; exact GM1.out.sh.off OFFH.out)
    have DG2 : Hid (Blk w6 KG 28 [.int .i64 (n : Int), .int .i64 (L : Int), .int .i64 (R : Int), .slice A1 hs.length c1, .slice A5 k5 c5]) := hid (by rw [hw]; exact DG.out.put 4 (.slice A5 k5 c5))
    have D62 : Hid (Blk w6 K6 28 [.int .i64 0, .int .i64 0, .int .i64 0, .slice none 0 0, .slice none 0 0]) := hid (by rw [hw]; exact D6.out.far (p := ⟨KG, 4, none⟩) NE6.out _)
    have HB2 : Hid (Below w.heap.size w w6) := hid (by rw [hw]; exact HB.out.setCell (p := ⟨KG, 4, none⟩) LOG.out _)
    have GMt : Hid (GM w6 (.slice A1 hs.length c1) (.slice A5 k5 c5) hs (Tp.addF es u v)) := hid ⟨SH.out, by rw [HK5.out]; exact SE.out⟩
    have HPt : Hid (GP n L R hs (Tp.addF es u v)) := hid (HP.out.add HIN.out.1 HIN.out.2 HUV.out HF.out HEL.out)
    have HW6 := hid hw
    clear hw HO
    have g4 := DG.out.cell 4
    have f4 := DG.out.frozen 4
    go_upto_region 7 with (fail)
    rw [← HW6.out]
    clear g4 f4 DG D6 HB GM1 SH SE
    have DG := DG2
    have D6 := D62
    have HB := HB2
    clear DG2 D62 HB2
    have g0 := DG.out.cell 0
    have g1 := DG.out.cell 1
    have g2 := DG.out.cell 2
    have g3 := DG.out.cell 3
    have g4 := DG.out.cell 4
    go_wp2_with fail
    refine (RC.out GMt.out HPt.out u1 u2 v1 v2).mono ?_; rintro e w7 ⟨v7, rfl, s7, of7, b7⟩
    clear g0 g1 g2 g3 g4
    obtain ⟨k7, hk7⟩ : ∃ k, (Tp.mendF n L S (Tp.addF es u v) u v L).length = k := ⟨_, rfl⟩
    rw [hk7] at s7
    obtain ⟨A7, c7, hv7, _, _, _, _⟩ := id s7
    subst hv7
    have HK7 := hid hk7
    have SE := hid s7
    have K6L : K6 < w6.heap.size := D6.out.lt
    have WL : w.heap.size ≤ w6.heap.size := HB.out.size
    have OFF6 : Hid (Off K6 (.slice A7 k7 c7)) := hid (of7 _ K6L OFF6'.out)
    have OFN7 : Hid (∀ K, K < w.heap.size → Off K (.slice A7 k7 c7)) := hid (fun K hK => of7 K (by omega) (OFFN.out K hK))
    replace DG := hid (DG.out.on b7)
    replace D6 := hid (D6.out.on b7)
    replace HB := hid (Bl.call HB.out b7)
    clear b7 s7 of7 K6L WL hk7 GMt
    have f0 := D6.out.frozen 0
    have f1 := D6.out.frozen 1
    have f2 := D6.out.frozen 2
    have f3 := D6.out.frozen 3
    have f4 := D6.out.frozen 4
    have p0 := D6.out.cell 0
    have p1 := D6.out.cell 1
    have p2 := D6.out.cell 2
    have p3 := D6.out.cell 3
    have p4 := D6.out.cell 4
    obtain ⟨w99, hw⟩ : ∃ z, z = (((((w7.setCell ⟨K6, 0, none⟩ (.int .i64 (n : Int))).setCell ⟨K6, 1, none⟩ (.int .i64 (L : Int))).setCell ⟨K6, 2, none⟩ (.int .i64 (R : Int))).setCell ⟨K6, 3, none⟩ (.slice A1 hs.length c1)).setCell ⟨K6, 4, none⟩ (.slice A7 k7 c7)) := ⟨_, rfl⟩
    have D8 : Hid (Blk w99 K6 28 [.int .i64 (n : Int), .int .i64 (L : Int), .int .i64 (R : Int), .slice A1 hs.length c1, .slice A7 k7 c7]) := hid (by rw [hw]; exact put5_blk D6.out)
    have HB8 : Hid (Below w.heap.size w w99) := hid (by rw [hw]; exact put5_bel HB.out LO6.out)
    have SE8 := hid (put5_sl (a := .int .i64 (n : Int)) (b := .int .i64 (L : Int)) (c := .int .i64 (R : Int)) (d := .slice A1 hs.length c1) (e := .slice A7 k7 c7) SE.out OFF6.out)
    rw [← hw] at SE8
    have HW8 := hid hw
    clear hw
    go_wp2
    rw [← HW8.out]
    clear f0 f1 f2 f3 f4
    clear p0 p1 p2 p3 p4
    have e0 := D8.out.cell 0
    have e1 := D8.out.cell 1
    have e2 := D8.out.cell 2
    have e3 := D8.out.cell 3
    have e4 := D8.out.cell 4
    exact bodyPost_ret (v := .tuple #[.agg #[.int .i64 (n : Int), .int .i64 (L : Int), .int .i64 (R : Int), .slice A1 hs.length c1, .slice A7 k7 c7], .int .i64 0]) (by simp [results, Tryz.results16, go_sem, e0, e1, e2, e3, e4]) rfl ⟨_, _, rfl, .inl rfl, by rw [HEE.out, HK7.out]; exact SE8.out, fun K hK _ => OFN7.out K hK, HB8.out⟩
set_option maxHeartbeats 32000000 in
set_option maxRecDepth 100000 in
theorem tDelete_ok (hm : GM w vh ve hs es) (hp : GP n L R hs es) (hel : es.length ≤ 999) (u v : Int) :
  Calls Tryz.prog 14 #[grV n L R vh ve, .int .i64 u, .int .i64 v] w (ActPost n L R vh ve es (Tp.delF n L (Tp.Sof hs R (lvl n) L) es u v) w) := by
 have S0 := hid hm.se
 have SH0 := hid hm.sh
 obtain ⟨A1, c1, A2, c2, rfl, rfl⟩ := hm.lit
 unfold grV
 obtain ⟨KG, hKG⟩ : ∃ K, K = w.heap.size := ⟨_, rfl⟩
 obtain ⟨w1, hw1⟩ : ∃ W, W = w.alloc (.cells #[.int .i64 (n : Int), .int .i64 (L : Int), .int .i64 (R : Int), .slice A1 hs.length c1, .slice A2 es.length c2] 28) := ⟨_, rfl⟩
 have HB : Hid (Below w.heap.size w w1) := hid (by rw [hw1]; exact bel_new _ _)
 have DG : Hid (Blk w1 KG 28 [.int .i64 (n : Int), .int .i64 (L : Int), .int .i64 (R : Int), .slice A1 hs.length c1, .slice A2 es.length c2]) := hid (by rw [hw1, hKG]; exact Blk.new _ _ _)
 have GM1 : Hid (GM w1 (.slice A1 hs.length c1) (.slice A2 es.length c2) hs es) := hid (by rw [hw1]; exact hm.new _)
 have HP := hid hp
 have HW := hid hw1
 have HKG := hid hKG
 have hn12 : n ≤ 12 := hp.n2
 have hL4 : L ≤ 4 := hp.l2
 have hR3 : R ≤ 3 := hp.r2
 clear hm hp hw1 hKG
 obtain ⟨w2, hw2⟩ : ∃ W, W = w1.alloc (.cells #[.int .i64 0, .int .i64 0, .int .i64 0, .slice none 0 0, .slice none 0 0] 28) := ⟨_, rfl⟩
 obtain ⟨K6, hK6⟩ : ∃ K, K = KG + 1 := ⟨_, rfl⟩
 have hsz1 : w1.heap.size = KG + 1 := by rw [HW.out, HKG.out]; simp
 have b12 : Below w1.heap.size w1 w2 := by rw [hw2]; exact bel_new _ _
 replace HB := hid (Bl.call HB.out b12)
 replace DG := hid (DG.out.below b12 DG.out.lt)
 replace GM1 := hid (GM1.out.call b12)
 have D6 : Hid (Blk w2 K6 28 [.int .i64 0, .int .i64 0, .int .i64 0, .slice none 0 0, .slice none 0 0]) := hid (by rw [hw2, hK6, ← hsz1]; exact Blk.new _ _ _)
 have LOG : Hid (w.heap.size ≤ KG) := hid (by rw [HKG.out]; exact Nat.le_refl _)
 have LO6 : Hid (w.heap.size ≤ K6) := hid (by rw [hK6, HKG.out]; omega)
 have NE6 : Hid (K6 ≠ KG) := hid (by omega)
 have HW2 := hid hw2
 have HK6 := hid hK6
 clear b12 hw2 hK6 hsz1
 have OFF6 : Hid (Off K6 (.slice A2 es.length c2)) := hid (S0.out.isOff LO6.out)
 have OFFH : Hid (Off KG (.slice A1 hs.length c1)) := hid (SH0.out.isOff LOG.out)
 have OFFG : Hid (Off KG (.slice A2 es.length c2)) := hid (S0.out.isOff LOG.out)
 obtain ⟨S, hS⟩ : ∃ S, S = Tp.Sof hs R (lvl n) L := ⟨_, rfl⟩
 have RC : Hid (∀ {w : World} {vh ve : Value} {es : List (Int × Int × Int)} {u v : Int}, GM w vh ve hs es → GP n L R hs es → 0 ≤ u → u < (n : Int) → 0 ≤ v → v < (n : Int) → Calls Tryz.prog 30 #[grV n L R vh ve, .int .i64 u, .int .i64 v] w (RaPost n L R vh ve (Tp.mendF n L S es u v L) w)) := hid (fun h1 h2 h3 h4 h5 h6 => by rw [hS]; exact mended_ok h1 h2 h3 h4 h5 h6)
 rw [← hS]
 clear hS
 have HEL := hid hel
 have LEN : Hid (es.length ≤ 1000) := hid HP.out.el
 have TAB := hid HP.out.tab
 clear hel
 obtain ⟨es', hes⟩ : ∃ es', es' = Tp.delF n L S es u v := ⟨_, rfl⟩
 rw [← hes]
 have HES := hid hes
 clear hes
 by_cases hin : Pt.InR n u ∧ Pt.InR n v
 case neg =>
  have HEE : Hid (es' = es) := hid (by rw [HES.out]; unfold Tp.delF; rw [if_neg (by intro h; exact hin h)])
  have g0 := DG.out.cell 0
  have g1 := DG.out.cell 1
  have g2 := DG.out.cell 2
  have g3 := DG.out.cell 3
  have g4 := DG.out.cell 4
  go_enter Tryz.func14, Tryz.ntmps14
  go_upto_region 1 with (fail)
  rw [← HW.out, ← HKG.out, ← HK6.out, ← HW2.out]
  go_wp2_with fail
  refine (tfits_is GM1.out HP.out false ⟨fun h => absurd h hin, fun h => by cases h⟩).mono ?_; rintro e w4 ⟨rfl, b4⟩
  clear g0 g1 g2 g3 g4
  replace DG := hid (DG.out.on b4)
  replace D6 := hid (D6.out.on b4)
  replace GM1 := hid (GM1.out.call b4)
  replace HB := hid (Bl.call HB.out b4)
  clear b4
  have SE := hid GM1.out.se
  clear hin
  have g0 := DG.out.cell 0
  have g1 := DG.out.cell 1
  have g2 := DG.out.cell 2
  have g3 := DG.out.cell 3
  have g4 := DG.out.cell 4
  have f0 := D6.out.frozen 0
  have f1 := D6.out.frozen 1
  have f2 := D6.out.frozen 2
  have f3 := D6.out.frozen 3
  have f4 := D6.out.frozen 4
  have p0 := D6.out.cell 0
  have p1 := D6.out.cell 1
  have p2 := D6.out.cell 2
  have p3 := D6.out.cell 3
  have p4 := D6.out.cell 4
  obtain ⟨w99, hw⟩ : ∃ z, z = (((((w4.setCell ⟨K6, 0, none⟩ (.int .i64 (n : Int))).setCell ⟨K6, 1, none⟩ (.int .i64 (L : Int))).setCell ⟨K6, 2, none⟩ (.int .i64 (R : Int))).setCell ⟨K6, 3, none⟩ (.slice A1 hs.length c1)).setCell ⟨K6, 4, none⟩ (.slice A2 es.length c2)) := ⟨_, rfl⟩
  have D8 : Hid (Blk w99 K6 28 [.int .i64 (n : Int), .int .i64 (L : Int), .int .i64 (R : Int), .slice A1 hs.length c1, .slice A2 es.length c2]) := hid (by rw [hw]; exact put5_blk D6.out)
  have HB8 : Hid (Below w.heap.size w w99) := hid (by rw [hw]; exact put5_bel HB.out LO6.out)
  have SE8 := hid (put5_sl (a := .int .i64 (n : Int)) (b := .int .i64 (L : Int)) (c := .int .i64 (R : Int)) (d := .slice A1 hs.length c1) (e := .slice A2 es.length c2) SE.out OFF6.out)
  rw [← hw] at SE8
  have HW8 := hid hw
  clear hw
  go_wp2
  rw [← HW8.out]
  clear g0 g1 g2 g3 g4
  clear f0 f1 f2 f3 f4
  clear p0 p1 p2 p3 p4
  have e0 := D8.out.cell 0
  have e1 := D8.out.cell 1
  have e2 := D8.out.cell 2
  have e3 := D8.out.cell 3
  have e4 := D8.out.cell 4
  exact bodyPost_ret (v := .tuple #[.agg #[.int .i64 (n : Int), .int .i64 (L : Int), .int .i64 (R : Int), .slice A1 hs.length c1, .slice A2 es.length c2], .int .i64 1]) (by simp [results, Tryz.results14, go_sem, e0, e1, e2, e3, e4]) rfl ⟨_, _, rfl, .inr HEE.out, by rw [HEE.out]; exact SE8.out, fun _ _ h => h, HB8.out⟩
 case pos =>
  have HIN := hid hin
  obtain ⟨⟨u1, u2⟩, v1, v2⟩ := hin
  cases hf : Tp.fiP (Pt.uv es) u v with
  | none =>
   have HEE : Hid (es' = es) := hid (by rw [HES.out]; unfold Tp.delF; rw [if_pos HIN.out, hf])
   have HF := hid hf
   clear hf
   have g0 := DG.out.cell 0
   have g1 := DG.out.cell 1
   have g2 := DG.out.cell 2
   have g3 := DG.out.cell 3
   have g4 := DG.out.cell 4
   go_enter Tryz.func14, Tryz.ntmps14
   go_upto_region 1 with (fail)
   rw [← HW.out, ← HKG.out, ← HK6.out, ← HW2.out]
   go_wp2_with fail
   refine (tfits_is GM1.out HP.out true ⟨fun _ => rfl, fun _ => HIN.out⟩).mono ?_; rintro e w4 ⟨rfl, b4⟩
   clear g0 g1 g2 g3 g4
   replace DG := hid (DG.out.on b4)
   replace D6 := hid (D6.out.on b4)
   replace GM1 := hid (GM1.out.call b4)
   replace HB := hid (Bl.call HB.out b4)
   clear b4
   have g0 := DG.out.cell 0
   have g1 := DG.out.cell 1
   have g2 := DG.out.cell 2
   have g3 := DG.out.cell 3
   have g4 := DG.out.cell 4
   go_wp2_with fail
   refine (tremove_none GM1.out.se TAB.out u1 u2 v1 v2 HF.out).mono ?_; rintro e w5 ⟨rfl, b5⟩
   clear g0 g1 g2 g3 g4
   replace DG := hid (DG.out.on b5)
   replace D6 := hid (D6.out.on b5)
   replace GM1 := hid (GM1.out.call b5)
   replace HB := hid (Bl.call HB.out b5)
   clear b5
   have SE := hid GM1.out.se
   have g0 := DG.out.cell 0
   have g1 := DG.out.cell 1
   have g2 := DG.out.cell 2
   have g3 := DG.out.cell 3
   have g4 := DG.out.cell 4
   have f0 := D6.out.frozen 0
   have f1 := D6.out.frozen 1
   have f2 := D6.out.frozen 2
   have f3 := D6.out.frozen 3
   have f4 := D6.out.frozen 4
   have p0 := D6.out.cell 0
   have p1 := D6.out.cell 1
   have p2 := D6.out.cell 2
   have p3 := D6.out.cell 3
   have p4 := D6.out.cell 4
   obtain ⟨w99, hw⟩ : ∃ z, z = (((((w5.setCell ⟨K6, 0, none⟩ (.int .i64 (n : Int))).setCell ⟨K6, 1, none⟩ (.int .i64 (L : Int))).setCell ⟨K6, 2, none⟩ (.int .i64 (R : Int))).setCell ⟨K6, 3, none⟩ (.slice A1 hs.length c1)).setCell ⟨K6, 4, none⟩ (.slice A2 es.length c2)) := ⟨_, rfl⟩
   have D8 : Hid (Blk w99 K6 28 [.int .i64 (n : Int), .int .i64 (L : Int), .int .i64 (R : Int), .slice A1 hs.length c1, .slice A2 es.length c2]) := hid (by rw [hw]; exact put5_blk D6.out)
   have HB8 : Hid (Below w.heap.size w w99) := hid (by rw [hw]; exact put5_bel HB.out LO6.out)
   have SE8 := hid (put5_sl (a := .int .i64 (n : Int)) (b := .int .i64 (L : Int)) (c := .int .i64 (R : Int)) (d := .slice A1 hs.length c1) (e := .slice A2 es.length c2) SE.out OFF6.out)
   rw [← hw] at SE8
   have HW8 := hid hw
   clear hw
   go_wp2
   rw [← HW8.out]
   clear g0 g1 g2 g3 g4
   clear f0 f1 f2 f3 f4
   clear p0 p1 p2 p3 p4
   have e0 := D8.out.cell 0
   have e1 := D8.out.cell 1
   have e2 := D8.out.cell 2
   have e3 := D8.out.cell 3
   have e4 := D8.out.cell 4
   exact bodyPost_ret (v := .tuple #[.agg #[.int .i64 (n : Int), .int .i64 (L : Int), .int .i64 (R : Int), .slice A1 hs.length c1, .slice A2 es.length c2], .int .i64 9]) (by simp [results, Tryz.results14, go_sem, e0, e1, e2, e3, e4]) rfl ⟨_, _, rfl, .inr HEE.out, by rw [HEE.out]; exact SE8.out, fun _ _ h => h, HB8.out⟩
  | some i0 =>
   have HEE : Hid (es' = Tp.mendF n L S (es.eraseIdx i0) u v L) := hid (by rw [HES.out]; unfold Tp.delF; rw [if_pos HIN.out, hf])
   have HF := hid hf
   clear hf
   have g0 := DG.out.cell 0
   have g1 := DG.out.cell 1
   have g2 := DG.out.cell 2
   have g3 := DG.out.cell 3
   have g4 := DG.out.cell 4
   go_enter Tryz.func14, Tryz.ntmps14
   go_upto_region 1 with (fail)
   rw [← HW.out, ← HKG.out, ← HK6.out, ← HW2.out]
   go_wp2_with fail
   refine (tfits_is GM1.out HP.out true ⟨fun _ => rfl, fun _ => HIN.out⟩).mono ?_; rintro e w4 ⟨rfl, b4⟩
   clear g0 g1 g2 g3 g4
   replace DG := hid (DG.out.on b4)
   replace D6 := hid (D6.out.on b4)
   replace GM1 := hid (GM1.out.call b4)
   replace HB := hid (Bl.call HB.out b4)
   clear b4
   have g0 := DG.out.cell 0
   have g1 := DG.out.cell 1
   have g2 := DG.out.cell 2
   have g3 := DG.out.cell 3
   have g4 := DG.out.cell 4
   go_wp2_with fail
   refine (tremove_ok GM1.out.se TAB.out u1 u2 v1 v2 HF.out LEN.out).mono ?_; rintro e w5 ⟨v5, rfl, o5, b5⟩
   clear g0 g1 g2 g3 g4
   obtain ⟨k5, hk5⟩ : ∃ k, (es.eraseIdx i0).length = k := ⟨_, rfl⟩
   rw [hk5] at o5
   obtain ⟨A5, c5, hv5, _, _, _, _⟩ := Sl.of_own o5
   subst hv5
   have HK5 := hid hk5
   have HO := hid o5
   have WL : w.heap.size ≤ w4.heap.size := HB.out.size
   have KGL : KG < w4.heap.size := DG.out.lt
   have K6L : K6 < w4.heap.size := D6.out.lt
   have OFF6' : Hid (Off K6 (.slice A5 k5 c5)) := hid (own_isOff o5 K6L)
   have OFFG' : Hid (Off KG (.slice A5 k5 c5)) := hid (own_isOff o5 KGL)
   have OFFN : Hid (∀ K, K < w.heap.size → Off K (.slice A5 k5 c5)) := hid (fun K hK => own_isOff o5 (by omega))
   replace DG := hid (DG.out.on b5)
   replace D6 := hid (D6.out.on b5)
   replace GM1 := hid (GM1.out.call b5)
   replace HB := hid (Bl.call HB.out b5)
   clear o5 b5 hk5 WL KGL K6L
   obtain ⟨w6, hw⟩ : ∃ z, z = w5.setCell ⟨KG, 4, none⟩ (.slice A5 k5 c5) := ⟨_, rfl⟩
   have SE : Hid (Sl w6 w6.heap.size 3 (.slice A5 k5 c5) k5 (eds (es.eraseIdx i0))) := hid (by rw [hw]; exact (Sl.of_own HO.out).off OFFG'.out)
   have SH : Hid (Sl w6 w6.heap.size 2 (.slice A1 hs.length c1) hs.length (hcs hs)) := hid (by rw [hw]; exact GM1.out.sh.off OFFH.out)
   have DG2 : Hid (Blk w6 KG 28 [.int .i64 (n : Int), .int .i64 (L : Int), .int .i64 (R : Int), .slice A1 hs.length c1, .slice A5 k5 c5]) := hid (by rw [hw]; exact DG.out.put 4 (.slice A5 k5 c5))
   have D62 : Hid (Blk w6 K6 28 [.int .i64 0, .int .i64 0, .int .i64 0, .slice none 0 0, .slice none 0 0]) := hid (by rw [hw]; exact D6.out.far (p := ⟨KG, 4, none⟩) NE6.out _)
   have HB2 : Hid (Below w.heap.size w w6) := hid (by rw [hw]; exact HB.out.setCell (p := ⟨KG, 4, none⟩) LOG.out _)
   have GMt : Hid (GM w6 (.slice A1 hs.length c1) (.slice A5 k5 c5) hs (es.eraseIdx i0)) := hid ⟨SH.out, by rw [HK5.out]; exact SE.out⟩
   have HPt : Hid (GP n L R hs (es.eraseIdx i0)) := hid (HP.out.del i0)
   have HW6 := hid hw
   clear hw HO
   have g4 := DG.out.cell 4
   have f4 := DG.out.frozen 4
   go_upto_region 7 with (fail)
   rw [← HW6.out]
   clear g4 f4 DG D6 HB GM1 SH SE
   have DG := DG2
   have D6 := D62
   have HB := HB2
   clear DG2 D62 HB2
   have g0 := DG.out.cell 0
   have g1 := DG.out.cell 1
   have g2 := DG.out.cell 2
   have g3 := DG.out.cell 3
   have g4 := DG.out.cell 4
   go_wp2_with fail
   refine (RC.out GMt.out HPt.out u1 u2 v1 v2).mono ?_; rintro e w7 ⟨v7, rfl, s7, of7, b7⟩
   clear g0 g1 g2 g3 g4
   obtain ⟨k7, hk7⟩ : ∃ k, (Tp.mendF n L S (es.eraseIdx i0) u v L).length = k := ⟨_, rfl⟩
   rw [hk7] at s7
   obtain ⟨A7, c7, hv7, _, _, _, _⟩ := id s7
   subst hv7
   have HK7 := hid hk7
   have SE := hid s7
   have K6L : K6 < w6.heap.size := D6.out.lt
   have WL : w.heap.size ≤ w6.heap.size := HB.out.size
   have OFF6 : Hid (Off K6 (.slice A7 k7 c7)) := hid (of7 _ K6L OFF6'.out)
   have OFN7 : Hid (∀ K, K < w.heap.size → Off K (.slice A7 k7 c7)) := hid (fun K hK => of7 K (by omega) (OFFN.out K hK))
   replace DG := hid (DG.out.on b7)
   replace D6 := hid (D6.out.on b7)
   replace HB := hid (Bl.call HB.out b7)
   clear b7 s7 of7 K6L WL hk7 GMt
   have f0 := D6.out.frozen 0
   have f1 := D6.out.frozen 1
   have f2 := D6.out.frozen 2
   have f3 := D6.out.frozen 3
   have f4 := D6.out.frozen 4
   have p0 := D6.out.cell 0
   have p1 := D6.out.cell 1
   have p2 := D6.out.cell 2
   have p3 := D6.out.cell 3
   have p4 := D6.out.cell 4
   obtain ⟨w99, hw⟩ : ∃ z, z = (((((w7.setCell ⟨K6, 0, none⟩ (.int .i64 (n : Int))).setCell ⟨K6, 1, none⟩ (.int .i64 (L : Int))).setCell ⟨K6, 2, none⟩ (.int .i64 (R : Int))).setCell ⟨K6, 3, none⟩ (.slice A1 hs.length c1)).setCell ⟨K6, 4, none⟩ (.slice A7 k7 c7)) := ⟨_, rfl⟩
   have D8 : Hid (Blk w99 K6 28 [.int .i64 (n : Int), .int .i64 (L : Int), .int .i64 (R : Int), .slice A1 hs.length c1, .slice A7 k7 c7]) := hid (by rw [hw]; exact put5_blk D6.out)
   have HB8 : Hid (Below w.heap.size w w99) := hid (by rw [hw]; exact put5_bel HB.out LO6.out)
   have SE8 := hid (put5_sl (a := .int .i64 (n : Int)) (b := .int .i64 (L : Int)) (c := .int .i64 (R : Int)) (d := .slice A1 hs.length c1) (e := .slice A7 k7 c7) SE.out OFF6.out)
   rw [← hw] at SE8
   have HW8 := hid hw
   clear hw
   go_wp2
   rw [← HW8.out]
   clear f0 f1 f2 f3 f4
   clear p0 p1 p2 p3 p4
   have e0 := D8.out.cell 0
   have e1 := D8.out.cell 1
   have e2 := D8.out.cell 2
   have e3 := D8.out.cell 3
   have e4 := D8.out.cell 4
   exact bodyPost_ret (v := .tuple #[.agg #[.int .i64 (n : Int), .int .i64 (L : Int), .int .i64 (R : Int), .slice A1 hs.length c1, .slice A7 k7 c7], .int .i64 0]) (by simp [results, Tryz.results14, go_sem, e0, e1, e2, e3, e4]) rfl ⟨_, _, rfl, .inl rfl, by rw [HEE.out, HK7.out]; exact SE8.out, fun K hK _ => OFN7.out K hK, HB8.out⟩
end
theorem rless_any (x y t x2 y2 t2 : Int) (w : World) :
  Calls Tryz.prog 35 #[.agg #[.int .i64 x, .int .i64 y, .int .i64 t], .agg #[.int .i64 x2, .int .i64 y2, .int .i64 t2]] w fun e w' => e = .returned (.bool (lessE (x, y, t) (x2, y2, t2))) ∧ Below w.heap.size w w' := by
 have hb : Below w.heap.size w ((w.alloc (.cells #[.int .i64 x, .int .i64 y, .int .i64 t] 35)).alloc (.cells #[.int .i64 x2, .int .i64 y2, .int .i64 t2] 35)) := Bl.new (bel_new _ _) _
 have HB := hid hb
 clear hb
 rcases Int.lt_trichotomy x x2 with h | h | h
 ·
  have h2 : (x != x2) = true := by simp; omega
  have H : Hid (lessE (x, y, t) (x2, y2, t2) = true) := hid (by simp [lessE, h])
  go_enter Tryz.func35, Tryz.ntmps35
  go_wp2
  go_ret
  exact ⟨by rw [H.out]; exact ret_bool (by simp [h]), HB.out⟩
 ·
  subst h
  by_cases hy : y < y2
  ·
   have H : Hid (lessE (x, y, t) (x, y2, t2) = true) := hid (by simp [lessE, hy])
   go_enter Tryz.func35, Tryz.ntmps35
   go_wp2
   go_ret
   exact ⟨by rw [H.out]; exact ret_bool (by simp [hy]), HB.out⟩
  ·
   have H : Hid (lessE (x, y, t) (x, y2, t2) = false) := hid (by simp [lessE, hy])
   go_enter Tryz.func35, Tryz.ntmps35
   go_wp2
   go_ret
   exact ⟨by rw [H.out]; exact ret_bool (by simp [hy]), HB.out⟩
 ·
  have h2 : (x != x2) = true := by simp; omega
  have h1 : ¬ x < x2 := by omega
  have H : Hid (lessE (x, y, t) (x2, y2, t2) = false) := hid (by simp [lessE]; omega)
  go_enter Tryz.func35, Tryz.ntmps35
  go_wp2
  go_ret
  exact ⟨by rw [H.out]; exact ret_bool (by simp [h1]), HB.out⟩
theorem rless_is {x y t x2 y2 t2 : Int} (b : Bool) (h : lessE (x, y, t) (x2, y2, t2) = b) (w : World) :
  Calls Tryz.prog 35 #[.agg #[.int .i64 x, .int .i64 y, .int .i64 t], .agg #[.int .i64 x2, .int .i64 y2, .int .i64 t2]] w fun e w' => e = .returned (.bool b) ∧ Below w.heap.size w w' := by
 subst h; exact rless_any _ _ _ _ _ _ _
set_option maxRecDepth 100000 in
set_option maxHeartbeats 8000000 in
theorem rtright_is {n : Int} {v : Value} {m : Nat} {l : List (Int × Int × Int)} {w : World} (hs : Sl w w.heap.size 3 v m (eds l)) (b : Bool) (hb : TabR n l ↔ b = true) :
  Calls Tryz.prog 31 #[.int .i64 n, v] w fun e w' => e = .returned (.bool b) ∧ Below w.heap.size w w' := by
 have hl : l.length = m := by have := hs.len; rw [len_eds] at this; omega
 have HB := hid hb
 obtain ⟨A, c, rfl, hnc, hcm, hll, hx⟩ := hs
 have hm : m ≤ 9223372036854775807 := by unfold maxLen at hcm; omega
 have HX := hid hx
 have HL := hid hl
 clear hx hll hl hb hcm hnc
 by_cases h1 : 0 ≤ n
 case neg =>
  have HF : Hid (b = false) := hid (by cases b with | false => rfl | true => exact absurd (HB.out.2 rfl).1.1 h1)
  go_enter Tryz.func31, Tryz.ntmps31
  go_wp2
  go_ret
  exact ⟨by rw [HF.out]; rfl, Below.refl _ _⟩
 case pos =>
  by_cases h2 : n ≤ 1024
  case neg =>
   have HF : Hid (b = false) := hid (by cases b with | false => rfl | true => exact absurd (HB.out.2 rfl).1.2 h2)
   go_enter Tryz.func31, Tryz.ntmps31
   go_wp2
   go_ret
   exact ⟨by rw [HF.out]; rfl, Below.refl _ _⟩
  case pos =>
   have HN := hid (And.intro h1 h2)
   go_enter Tryz.func31, Tryz.ntmps31
   go_wp2_with fail
   go_loopw [5] (fun iv wr => ∃ i : Nat, i ≤ m ∧ iv = .int .i64 (i : Int) ∧ Hid (TabPre n l i) ∧ Hid (Below w.heap.size w wr)) (fun iv _ => m - (intOf iv).toNat)
   case atStart => exact ⟨0, Nat.zero_le _, rfl, hid (fun j _ hj => absurd hj (Nat.not_lt_zero _)), hid (Below.refl _ _)⟩
   case round =>
    obtain ⟨i, hi, rfl, HP, HBr⟩ := hrel
    obtain ⟨w1, rfl⟩ : ∃ x, x = wr := ⟨wr, rfl⟩
    by_cases hlt : i < m
    ·
     have j0 : (i : Int) < (m : Int) := by omega
     have hil : i < l.length := by rw [HL.out]; exact hlt
     obtain ⟨b6, o6, rfl, hb6, hc6⟩ := HX.out (by omega)
     obtain ⟨p0, p1, p2⟩ := eds_cell hc6 hil
     have q0 := (HBr.out.cell (p := ⟨b6, o6 + i * 3, none⟩) hb6).trans p0
     have q1 := (HBr.out.cell (p := ⟨b6, o6 + i * 3 + 1, none⟩) hb6).trans p1
     have q2 := (HBr.out.cell (p := ⟨b6, o6 + i * 3 + 2, none⟩) hb6).trans p2
     have HNO := hid (tab_no HB.out hil)
     have HNX := hid (fun (h1 : EdOk n l[i]) (h2 : ∀ k, (hk : k + 1 = i) → lessE (l[k]'(by omega)) l[i] = true) => tab_next HP.out (fun _ => ⟨h1, h2⟩))
     obtain ⟨e, he⟩ : ∃ e, e = l[i] := ⟨_, rfl⟩
     rw [← he] at q0 q1 q2 HNO HNX
     have HE := hid he
     obtain ⟨x, y, t⟩ := e
     dsimp only at q0 q1 q2
     clear he p0 p1 p2
     have HOKE : Hid (0 ≤ x → x < y → y < n → 0 ≤ t → t ≤ 16 → EdOk n (x, y, t)) := hid (fun l1 l2 l3 l4 l5 => ⟨l1, l2, l3, l4, l5⟩)
     by_cases k1 : x < 0
     case pos =>
      have HF : Hid (b = false) := hid (HNO (fun h => by simp only [EdOk] at h; omega))
      clear HNO HNX HE hil hc6
      go_wp2_with fail
      go_quiet (fail)
      go_wp2
      go_ret
      exact ⟨by rw [HF.out]; rfl, Bl.qt HBr.out (qt_of _ _)⟩
     by_cases k2 : y ≤ x
     case pos =>
      have HF : Hid (b = false) := hid (HNO (fun h => by simp only [EdOk] at h; omega))
      clear HNO HNX HE hil hc6
      go_wp2_with fail
      go_quiet (fail)
      go_wp2
      go_ret
      exact ⟨by rw [HF.out]; rfl, Bl.qt HBr.out (qt_of _ _)⟩
     by_cases k3 : n ≤ y
     case pos =>
      have HF : Hid (b = false) := hid (HNO (fun h => by simp only [EdOk] at h; omega))
      clear HNO HNX HE hil hc6
      go_wp2_with fail
      go_quiet (fail)
      go_wp2
      go_ret
      exact ⟨by rw [HF.out]; rfl, Bl.qt HBr.out (qt_of _ _)⟩
     by_cases k4 : t < 0
     case pos =>
      have HF : Hid (b = false) := hid (HNO (fun h => by simp only [EdOk] at h; omega))
      clear HNO HNX HE hil hc6
      go_wp2_with fail
      go_quiet (fail)
      go_wp2
      go_ret
      exact ⟨by rw [HF.out]; rfl, Bl.qt HBr.out (qt_of _ _)⟩
     by_cases k5 : 16 < t
     case pos =>
      have HF : Hid (b = false) := hid (HNO (fun h => by simp only [EdOk] at h; omega))
      clear HNO HNX HE hil hc6
      go_wp2_with fail
      go_quiet (fail)
      go_wp2
      go_ret
      exact ⟨by rw [HF.out]; rfl, Bl.qt HBr.out (qt_of _ _)⟩
     have HED := hid (HOKE.out (by omega) (by omega) (by omega) (by omega) (by omega))
     clear HNO HOKE
     go_wp2_with fail
     go_quiet (fail)
     cases i with
     | zero =>
      have HN2 := hid (HNX HED.out (fun k hk => by omega))
      clear HNX HE hil hc6 q0 q1 q2
      go_wp2_with fail
      go_quiet (fail)
      go_wp2_with fail
      go_roundw
      case rel => exact ⟨1, by omega, rfl, HN2, hid (Bl.qt HBr.out (qt_of _ _))⟩
      case measure => simp [intOf]; omega
     | succ i =>
      have hil2 : i < l.length := by omega
      obtain ⟨r0, r1, r2⟩ := eds_cell hc6 hil2
      have s0 := (HBr.out.cell (p := ⟨b6, o6 + i * 3, none⟩) hb6).trans r0
      have s1 := (HBr.out.cell (p := ⟨b6, o6 + i * 3 + 1, none⟩) hb6).trans r1
      have s2 := (HBr.out.cell (p := ⟨b6, o6 + i * 3 + 2, none⟩) hb6).trans r2
      have HNL := hid (fun h : lessE l[i] l[i + 1] = false => tab_no2 HB.out hil h)
      have HNX2 : Hid (lessE l[i] (x, y, t) = true → TabPre n l (i + 1 + 1)) := hid (fun h => by
       refine HNX HED.out (fun k hk => ?_)
       obtain rfl : k = i := by omega
       exact h)
      rw [← HE.out] at HNL
      obtain ⟨pe, hpe⟩ : ∃ e, e = l[i] := ⟨_, rfl⟩
      rw [← hpe] at s0 s1 s2 HNL HNX2
      obtain ⟨px, py, pt⟩ := pe
      dsimp only at s0 s1 s2
      have j9 : IntKind.i64.wrap ((i : Int) + 1 - 1) = (i : Int) := by rw [IntKind.wrap_i64]; omega
      have j8 : (i : Int) + 1 < (m : Int) := by omega
      have j10 : IntKind.i64.wrap (((i + 1 : Nat) : Int) - 1) = (i : Int) := by rw [IntKind.wrap_i64]; omega
      have j7 : (i : Int) < (m : Int) := by omega
      have j6 : (0 : Int) ≤ (i : Int) := by omega
      have j5 : (0 : Int) < ((i + 1 : Nat) : Int) := by omega
      have j4 : (0 : Int) < (i : Int) + 1 := by omega
      have j3 : IntKind.i64.wrap (i : Int) = (i : Int) := IntWalk.i64_in _ (by omega)
      have jm : (m : Int) ≤ 9223372036854775807 := by omega
      have j2 : (0 : Int) ≤ (i : Int) + 1 := by omega
      have j1 : ((i : Int) + 1).toNat = i + 1 := by omega
      clear HNX HE hil hil2 hc6 r0 r1 r2 hpe
      go_wp2_with fail
      generalize hw2 : World.drewN w1 _ = w2
      have hq2 : Qt w1 w2 := ⟨_, hw2.symm⟩
      have HB2 := hid (Bl.qt HBr.out hq2)
      rw [← hq2.cell] at q0 q1 q2 s0 s1 s2
      clear hw2 hq2
      cases hls : lessE (px, py, pt) (x, y, t) with
      | true =>
       have HN2 := hid (HNX2.out hls)
       have HLS := hid hls
       clear hls
       go_region_held3 (fun w' => w'.cell? ⟨b6, o6 + i * 3, none⟩ = some (.int .i64 px) ∧ w'.cell? ⟨b6, o6 + i * 3 + 1, none⟩ = some (.int .i64 py) ∧ w'.cell? ⟨b6, o6 + i * 3 + 2, none⟩ = some (.int .i64 pt) ∧ w'.cell? ⟨b6, o6 + (i + 1) * 3, none⟩ = some (.int .i64 x) ∧ w'.cell? ⟨b6, o6 + (i + 1) * 3 + 1, none⟩ = some (.int .i64 y) ∧ w'.cell? ⟨b6, o6 + (i + 1) * 3 + 2, none⟩ = some (.int .i64 t))
        (first | go_keep | (go_split_ands; and_intros <;> (first | (refine cell_later (by assumption) ?_; first | assumption | (rw [Qt.cell (qt_of _ _)]; assumption) | (rw [Qt.cell (qt_drew _)]; assumption)) | (refine cell_later (bel_new _ _) ?_; assumption))) | (refine cell_later (by assumption) ?_; first | assumption | (rw [Qt.cell (qt_of _ _)]; assumption) | (rw [Qt.cell (qt_drew _)]; assumption)) | (refine cell_later (bel_new _ _) ?_; assumption))
        ((go_at_call 35; (with_reducible refine (rless_is true HLS.out _).mono ?_); rintro e w5 ⟨rfl, b5⟩))
       all_goals
        go_wp2_with fail
        go_roundw
        case rel => exact ⟨i + 1 + 1, by omega, by go_num, HN2, hid (by repeat (first | exact HB2.out | refine Bl.new ?_ _ | refine Bl.call ?_ (by assumption) | refine Bl.qt ?_ (by assumption) | refine Bl.qt ?_ (qt_drew _) | refine Bl.qt ?_ (qt_of _ _)))⟩
        case measure => simp [intOf]; omega
      | false =>
       have HF := hid (HNL.out hls)
       have HLS := hid hls
       clear hls
       go_region_held3 (fun w' => w'.cell? ⟨b6, o6 + i * 3, none⟩ = some (.int .i64 px) ∧ w'.cell? ⟨b6, o6 + i * 3 + 1, none⟩ = some (.int .i64 py) ∧ w'.cell? ⟨b6, o6 + i * 3 + 2, none⟩ = some (.int .i64 pt) ∧ w'.cell? ⟨b6, o6 + (i + 1) * 3, none⟩ = some (.int .i64 x) ∧ w'.cell? ⟨b6, o6 + (i + 1) * 3 + 1, none⟩ = some (.int .i64 y) ∧ w'.cell? ⟨b6, o6 + (i + 1) * 3 + 2, none⟩ = some (.int .i64 t))
        (first | go_keep | (go_split_ands; and_intros <;> (first | (refine cell_later (by assumption) ?_; first | assumption | (rw [Qt.cell (qt_of _ _)]; assumption) | (rw [Qt.cell (qt_drew _)]; assumption)) | (refine cell_later (bel_new _ _) ?_; assumption))) | (refine cell_later (by assumption) ?_; first | assumption | (rw [Qt.cell (qt_of _ _)]; assumption) | (rw [Qt.cell (qt_drew _)]; assumption)) | (refine cell_later (bel_new _ _) ?_; assumption))
        ((go_at_call 35; (with_reducible refine (rless_is false HLS.out _).mono ?_); rintro e w5 ⟨rfl, b5⟩))
       all_goals
        go_wp2
        go_ret
        exact ⟨by rw [HF.out]; rfl, (by repeat (first | exact HB2.out | refine Bl.new ?_ _ | refine Bl.call ?_ (by assumption) | refine Bl.qt ?_ (by assumption) | refine Bl.qt ?_ (qt_drew _) | refine Bl.qt ?_ (qt_of _ _)))⟩
    ·
     have j0 : ¬ (i : Int) < (m : Int) := by omega
     obtain rfl : i = m := by omega
     have HF : Hid (b = true) := hid (HB.out.1 ⟨HN.out, by rw [HL.out]; exact HP.out⟩)
     go_wp2
     go_ret
     exact ⟨by rw [HF.out]; rfl, HBr.out⟩
theorem rin_is {n v : Int} (b : Bool) (hb : (0 ≤ v ∧ v < n) ↔ b = true) (w : World) : Calls Tryz.prog 32 #[.int .i64 n, .int .i64 v] w fun e w' => e = .returned (.bool b) ∧ w = w' := by
 have HF : Hid (∀ p : Prop, (0 ≤ v ∧ v < n → p) → ¬ p → b = false) := hid (fun p h hn => not_true hb (fun q => hn (h q)))
 have HT := hid hb
 clear hb
 by_cases c1 : 0 ≤ v
 case neg =>
  have HR := hid (HF.out (0 ≤ v) (fun h => h.1) c1)
  go_enter Tryz.func32, Tryz.ntmps32
  go_wp2
  go_ret
  exact ⟨by rw [HR.out]; first | rfl | exact ret_bool (by simp; omega), rfl⟩
 case pos =>
 by_cases c2 : v < n
 case neg =>
  have HR := hid (HF.out (v < n) (fun h => h.2) c2)
  go_enter Tryz.func32, Tryz.ntmps32
  go_wp2
  go_ret
  exact ⟨by rw [HR.out]; first | rfl | exact ret_bool (by simp; omega), rfl⟩
 case pos =>
 have HR : Hid (b = true) := hid (HT.out.1 ⟨c1, c2⟩)
 go_enter Tryz.func32, Tryz.ntmps32
 go_wp2
 go_ret
 exact ⟨by rw [HR.out]; first | rfl | exact ret_bool (by simp; omega), rfl⟩
def InB (n v : Int) : Prop := 0 ≤ v ∧ v < n
theorem rin_yes {n v : Int} (h : InB n v) (w : World) : Calls Tryz.prog 32 #[.int .i64 n, .int .i64 v] w fun e w' => e = .returned (.bool true) ∧ w = w' := rin_is true ⟨fun _ => rfl, fun _ => h⟩ w
theorem rin_no {n v : Int} (h : ¬ InB n v) (w : World) : Calls Tryz.prog 32 #[.int .i64 n, .int .i64 v] w fun e w' => e = .returned (.bool false) ∧ w = w' := rin_is false ⟨fun q => absurd q h, fun q => by cases q⟩ w
def RfPost (m : Nat) (w : World) (e : Ending) (w' : World) : Prop := ∃ z : Int, e = .returned (.int .i64 z) ∧ (z = -1 ∨ (0 ≤ z ∧ z < (m : Int))) ∧ w = w'
set_option maxRecDepth 100000 in
set_option maxHeartbeats 8000000 in
theorem rfindE_any {v0 : Value} {m : Nat} {l : List (Int × Int × Int)} {u v : Int} {w : World} (hs : Sl w w.heap.size 3 v0 m (eds l)) :
  Calls Tryz.prog 33 #[v0, .int .i64 u, .int .i64 v] w (RfPost m w) := by
 have hl : l.length = m := by have := hs.len; rw [len_eds] at this; omega
 obtain ⟨A, c, rfl, hnc, hcm, hll, hx⟩ := hs
 have hm : m ≤ 9223372036854775807 := by unfold maxLen at hcm; omega
 have HX := hid hx
 have HL := hid hl
 clear hx hll hl hcm hnc
 go_enter Tryz.func33, Tryz.ntmps33
 go_wp2_with fail
 go_loopw [7] (fun iv wr => ∃ i : Nat, i ≤ m ∧ iv = .int .i64 (i : Int) ∧ w = wr) (fun iv _ => m - (intOf iv).toNat)
 case atStart => exact ⟨0, Nat.zero_le _, rfl, by trivial⟩
 case round =>
  obtain ⟨i, hi, rfl, rfl⟩ := hrel
  by_cases hlt : i < m
  ·
   have j0 : (i : Int) < (m : Int) := by omega
   have hil : i < l.length := by rw [HL.out]; exact hlt
   obtain ⟨b6, o6, rfl, hb6, hc6⟩ := HX.out (by omega)
   obtain ⟨q0, q1, q2⟩ := eds_cell hc6 hil
   generalize l[i] = e at q0 q1 q2
   obtain ⟨x, y, t⟩ := e
   dsimp only at q0 q1 q2
   clear hc6 hil
   cases hb : Tp.fiB u v (x, y) with
   | true =>
    have hc := fiB_yes hb
    clear hb
    rcases hc with ⟨e1, e2⟩ | ⟨e1, e2, e3, e4⟩ | ⟨e1, e3, e4⟩
    all_goals
     go_wp2
     go_ret
     exact ⟨_, rfl, .inr ⟨by omega, by omega⟩, rfl⟩
   | false =>
    have hc := fiB_no hb
    clear hb
    rcases hc with ⟨e1, e2, e3, e4⟩ | ⟨e1, e2, e3⟩ | ⟨e1, e3, e4⟩ | ⟨e1, e3⟩
    all_goals
     go_wp2_with fail
     go_roundw
     case rel => exact ⟨i + 1, by omega, by go_num, by trivial⟩
     case measure => simp [intOf]; omega
  ·
   have j0 : ¬ (i : Int) < (m : Int) := by omega
   obtain rfl : i = m := by omega
   go_wp2
   go_ret
   exact ⟨_, rfl, .inl rfl, rfl⟩
def SomePost (k : Nat) (v0 : Value) (w : World) (e : Ending) (w' : World) : Prop := ∃ (v : Value) (err : Int) (q : Nat) (l : List (Int × Int × Int)), e = .returned (.tuple #[v, .int .i64 err]) ∧ q ≤ k ∧ Sl w' w'.heap.size 3 v q (eds l) ∧ (∀ K, K < w.heap.size → Off K v0 → Off K v) ∧ Below w.heap.size w w'
set_option maxRecDepth 100000 in
set_option maxHeartbeats 8000000 in
theorem rremoveE_any {n : Int} {v0 : Value} {m : Nat} {l : List (Int × Int × Int)} {u v : Int} {w : World} (hs : Sl w w.heap.size 3 v0 m (eds l)) (hm : m ≤ 1000) :
  Calls Tryz.prog 15 #[.int .i64 n, v0, .int .i64 u, .int .i64 v] w (SomePost m v0 w) := by
 obtain ⟨A, c, rfl, hnc, hcm, hll, hx⟩ := hs
 have HS : Hid (Sl w w.heap.size 3 (.slice A m c) m (eds l)) := hid ⟨A, c, rfl, hnc, hcm, hll, hx⟩
 clear hcm hll hx
 have m63 : (m : Int) ≤ 1000 := by omega
 by_cases ht : TabR n l
 case neg =>
  have HT := hid ht
  clear ht
  go_enter Tryz.func15, Tryz.ntmps15
  go_wp2_with fail
  refine (rtright_is HS.out false ⟨fun q => absurd q HT.out, fun q => by cases q⟩).mono ?_; rintro e w2 ⟨rfl, b2⟩
  have HB2 := hid b2
  have HS2 := hid (HS.out.call b2)
  clear b2
  go_wp2
  go_ret2
  exact ⟨_, _, m, l, rfl, by omega, HS2.out, fun _ _ h => h, HB2.out⟩
 case pos =>
 have HT := hid ht
 clear ht
 by_cases hu : InB n u
 case neg =>
  have HU := hid hu
  clear hu
  go_enter Tryz.func15, Tryz.ntmps15
  go_wp2_with fail
  refine (rtright_is HS.out true ⟨fun _ => rfl, fun _ => HT.out⟩).mono ?_; rintro e w2 ⟨rfl, b2⟩
  have HB2 := hid b2
  have HS2 := hid (HS.out.call b2)
  clear b2
  go_wp2_with fail
  refine (rin_no HU.out _).mono ?_; rintro e w' ⟨rfl, rfl⟩
  go_wp2
  go_ret2
  exact ⟨_, _, m, l, rfl, by omega, HS2.out, fun _ _ h => h, HB2.out⟩
 case pos =>
 have HU := hid hu
 by_cases hv : InB n v
 case neg =>
  have HV := hid hv
  clear hu hv
  go_enter Tryz.func15, Tryz.ntmps15
  go_wp2_with fail
  refine (rtright_is HS.out true ⟨fun _ => rfl, fun _ => HT.out⟩).mono ?_; rintro e w2 ⟨rfl, b2⟩
  have HB2 := hid b2
  have HS2 := hid (HS.out.call b2)
  clear b2
  go_wp2_with fail
  refine (rin_yes HU.out _).mono ?_; rintro e w' ⟨rfl, rfl⟩
  go_wp2_with fail
  refine (rin_no HV.out _).mono ?_; rintro e w' ⟨rfl, rfl⟩
  go_wp2
  go_ret2
  exact ⟨_, _, m, l, rfl, by omega, HS2.out, fun _ _ h => h, HB2.out⟩
 case pos =>
 have HV := hid hv
 clear hu hv
 go_enter Tryz.func15, Tryz.ntmps15
 go_wp2_with fail
 refine (rtright_is HS.out true ⟨fun _ => rfl, fun _ => HT.out⟩).mono ?_; rintro e w2 ⟨rfl, b2⟩
 have HB2 := hid b2
 have HS2 := hid (HS.out.call b2)
 clear b2
 go_wp2_with fail
 refine (rin_yes HU.out _).mono ?_; rintro e w' ⟨rfl, rfl⟩
 go_wp2_with fail
 refine (rin_yes HV.out _).mono ?_; rintro e w' ⟨rfl, rfl⟩
 go_wp2_with fail
 refine (rfindE_any (u := u) (v := v) HS2.out).mono ?_; rintro e w' ⟨z, rfl, hz, rfl⟩
 rcases hz with rfl | ⟨z0, z1⟩
 ·
  go_wp2
  go_ret2
  exact ⟨_, _, m, l, rfl, Nat.le_refl _, HS2.out, fun _ _ h => h, HB2.out⟩
 ·
  obtain ⟨i, rfl⟩ := Int.eq_ofNat_of_zero_le z0
  have hi : i < m := by omega
  have z2 : ¬ (i : Int) < 0 := by omega
  have z3 : (i : Int) ≤ (c : Int) := by omega
  have z4 : (i : Int) + 1 ≤ (m : Int) := by omega
  have hsl1 := run_take_of Tedg A m c i (by omega)
  have hsl2 : ∀ w : World, (Instr.slice 26 (.slice A m c) (some (.int .i64 ((i : Int) + 1))) none none).run Tryz.prog w = .ok (.slice (cutA A c (i + 1) 3) (m - (i + 1)) (c - (i + 1))) w := run_drop_of Tedg A m c (i + 1) (by omega)
  have U1 : Hid (Sl w2 w2.heap.size 3 (.slice (cutA A c 0 3) i c) i (eds (l.take i))) := hid (by rw [← eds_take]; exact HS2.out.take (by omega))
  have U2 : Hid (Sl w2 w2.heap.size 3 (.slice (cutA A c (i + 1) 3) (m - (i + 1)) (c - (i + 1))) (m - (i + 1)) (eds (l.drop (i + 1)))) := hid (by rw [← eds_drop]; exact HS2.out.drop (by omega))
  generalize cutA A c 0 3 = P1 at *
  generalize cutA A c (i + 1) 3 = P2 at *
  have hb1 : (0 + i) * 24 ≤ 140737488355328 := by omega
  have hb2 : (i + (m - (i + 1))) * 24 ≤ 140737488355328 := by omega
  go_wp2_with (at_builtin; (refine wl_app rfl _ _ Tedg rfl (base := w2.heap.size) rfl (World.ownsRow_nil _ _ _ _) rfl U1.out (eds_one _) hb1 (Nat.le_refl _) ?_))
  intro v4 w4 o4 b4
  have O4 : Hid (w4.ownsRow w2.heap.size 35 3 v4 i (eds (l.take i))) := hid (by simpa using o4)
  have B4 := hid b4
  have U24 := hid (U2.out.below b4 (Nat.le_refl _))
  have Z4 := hid b4.size
  clear o4 b4
  go_wp2_with (at_builtin; (refine wl_app rfl _ _ Tedg rfl rfl O4.out rfl U24.out (eds_one _) hb2 Z4.out ?_))
  intro v5 w5 o5 b5
  have S5 := hid (Sl.of_own o5)
  have F5 : Hid (∀ K, K < w.heap.size → Off K v5) := hid (fun K hK => own_isOff o5 (Nat.lt_of_lt_of_le hK HB2.out.size))
  have B5 := hid b5
  clear o5 b5
  go_wp2
  go_ret2
  exact ⟨_, _, i + (m - (i + 1)), l.take i ++ l.drop (i + 1), rfl, by omega, by have := S5.out; rw [eds_app] at this; exact this, fun K hK _ => F5.out K hK, HB2.out.trans ((B4.out.trans B5.out).mono HB2.out.size)⟩
set_option maxRecDepth 100000 in
set_option maxHeartbeats 32000000 in
theorem raddE_any {n : Int} {v0 : Value} {m : Nat} {l : List (Int × Int × Int)} {u v : Int} {w : World} (hs : Sl w w.heap.size 3 v0 m (eds l)) (hm : m ≤ 1000) :
  Calls Tryz.prog 17 #[.int .i64 n, v0, .int .i64 u, .int .i64 v] w (SomePost (m + 1) v0 w) := by
 have hl : l.length = m := by have := hs.len; rw [len_eds] at this; omega
 obtain ⟨A, c, rfl, hnc, hcm, hll, hx⟩ := hs
 have HS : Hid (Sl w w.heap.size 3 (.slice A m c) m (eds l)) := hid ⟨A, c, rfl, hnc, hcm, hll, hx⟩
 have HX := hid hx
 have HL := hid hl
 clear hcm hll hx hl
 have m63 : (m : Int) ≤ 1000 := by omega
 by_cases ht : TabR n l
 case neg =>
  have HT := hid ht
  clear ht
  go_enter Tryz.func17, Tryz.ntmps17
  go_wp2_with fail
  refine (rtright_is HS.out false ⟨fun q => absurd q HT.out, fun q => by cases q⟩).mono ?_; rintro e w2 ⟨rfl, b2⟩
  have HB2 := hid b2
  have HS2 := hid (HS.out.call b2)
  clear b2
  go_wp2
  go_ret2
  exact ⟨_, _, m, l, rfl, by omega, HS2.out, fun _ _ h => h, HB2.out⟩
 case pos =>
 have HT := hid ht
 clear ht
 by_cases hu : InB n u
 case neg =>
  have HU := hid hu
  clear hu
  go_enter Tryz.func17, Tryz.ntmps17
  go_wp2_with fail
  refine (rtright_is HS.out true ⟨fun _ => rfl, fun _ => HT.out⟩).mono ?_; rintro e w2 ⟨rfl, b2⟩
  have HB2 := hid b2
  have HS2 := hid (HS.out.call b2)
  clear b2
  go_wp2_with fail
  refine (rin_no HU.out _).mono ?_; rintro e w' ⟨rfl, rfl⟩
  go_wp2
  go_ret2
  exact ⟨_, _, m, l, rfl, by omega, HS2.out, fun _ _ h => h, HB2.out⟩
 case pos =>
 have HU := hid hu
 by_cases hv : InB n v
 case neg =>
  have HV := hid hv
  clear hu hv
  go_enter Tryz.func17, Tryz.ntmps17
  go_wp2_with fail
  refine (rtright_is HS.out true ⟨fun _ => rfl, fun _ => HT.out⟩).mono ?_; rintro e w2 ⟨rfl, b2⟩
  have HB2 := hid b2
  have HS2 := hid (HS.out.call b2)
  clear b2
  go_wp2_with fail
  refine (rin_yes HU.out _).mono ?_; rintro e w' ⟨rfl, rfl⟩
  go_wp2_with fail
  refine (rin_no HV.out _).mono ?_; rintro e w' ⟨rfl, rfl⟩
  go_wp2
  go_ret2
  exact ⟨_, _, m, l, rfl, by omega, HS2.out, fun _ _ h => h, HB2.out⟩
 case pos =>
 have HV := hid hv
 clear hu hv
 by_cases huv : u = v
 case pos =>
  subst huv
  have e0 : (u == u) = true := by simp
  go_enter Tryz.func17, Tryz.ntmps17
  go_wp2_with fail
  refine (rtright_is HS.out true ⟨fun _ => rfl, fun _ => HT.out⟩).mono ?_; rintro e w2 ⟨rfl, b2⟩
  have HB2 := hid b2
  have HS2 := hid (HS.out.call b2)
  clear b2
  go_wp2_with fail
  refine (rin_yes HU.out _).mono ?_; rintro e w' ⟨rfl, rfl⟩
  go_wp2_with fail
  refine (rin_yes HV.out _).mono ?_; rintro e w' ⟨rfl, rfl⟩
  go_wp2
  go_ret2
  exact ⟨_, _, m, l, rfl, by omega, HS2.out, fun _ _ h => h, HB2.out⟩
 case neg =>
 have e0 : (u == v) = false := by simp [huv]
 by_cases hgt : v < u
 case pos =>
  have hq1 : ¬ u ≤ v := by omega
  go_enter Tryz.func17, Tryz.ntmps17
  go_wp2_with fail
  refine (rtright_is HS.out true ⟨fun _ => rfl, fun _ => HT.out⟩).mono ?_; rintro e w2 ⟨rfl, b2⟩
  have HB2 := hid b2
  have HS2 := hid (HS.out.call b2)
  clear b2
  go_wp2_with fail
  refine (rin_yes HU.out _).mono ?_; rintro e w' ⟨rfl, rfl⟩
  go_wp2_with fail
  refine (rin_yes HV.out _).mono ?_; rintro e w' ⟨rfl, rfl⟩
  go_wp2_with fail
  refine (rfindE_any (u := u) (v := v) HS2.out).mono ?_; rintro e w' ⟨z, rfl, hz, rfl⟩
  rcases hz with rfl | ⟨z0, z1⟩
  case inr =>
   go_wp2
   go_ret2
   exact ⟨_, _, m, l, rfl, by omega, HS2.out, fun _ _ h => h, HB2.out⟩
  case inl =>
  obtain ⟨w4, hw4⟩ : ∃ W, W = w2.alloc (.cells #[.int .i64 v, .int .i64 u, .int .i64 0] 35) := ⟨_, rfl⟩
  obtain ⟨K, hK⟩ : ∃ K, K = w2.heap.size := ⟨_, rfl⟩
  have D4 : Hid (Blk w4 K 35 [.int .i64 v, .int .i64 u, .int .i64 0]) := hid (by rw [hw4, hK]; exact Blk.new _ _ _)
  have HB4 : Hid (Below w.heap.size w w4) := hid (by rw [hw4]; exact Bl.new HB2.out _)
  have HS4 : Hid (Sl w4 w4.heap.size 3 (.slice A m c) m (eds l)) := hid (by rw [hw4]; exact HS2.out.new _)
  have HW4 := hid hw4
  have HK := hid hK
  clear hw4 hK HB2 HS2
  go_wp2_with fail
  rw [← HK.out, ← HW4.out]
  go_loopw [12, 13] (fun ov iv wr => ∃ i : Nat, iv = .int .i64 (i : Int) ∧ i ≤ m ∧ Hid (wr.ownsRow w4.heap.size 35 3 ov i (eds (l.take i))) ∧ Hid (Below w4.heap.size w4 wr)) (fun _ iv _ => m - (intOf iv).toNat)
  case atStart => exact ⟨0, rfl, Nat.zero_le _, hid (World.ownsRow_nil _ _ _ _), hid (Below.refl _ _)⟩
  case round =>
   obtain ⟨i, rfl, hi, HO, HBr⟩ := hrel
   have Dr := hid (D4.out.below HBr.out D4.out.lt)
   have HSr := hid (HS4.out.call HBr.out)
   have HB5 := hid (Bl.call HB4.out HBr.out)
   have k0 := Dr.out.cell 0
   have k1 := Dr.out.cell 1
   have k2 := Dr.out.cell 2
   have hi63 : (i : Int) ≤ 1000 := by omega
   by_cases hlt : i < m
   case pos =>
    have j0 : (i : Int) < (m : Int) := by omega
    have hil : i < l.length := by rw [HL.out]; exact hlt
    obtain ⟨b6, o6, rfl, hb6, hc6⟩ := HX.out (by omega)
    obtain ⟨p0, p1, p2⟩ := eds_cell hc6 hil
    have q0 := (HB5.out.cell (p := ⟨b6, o6 + i * 3, none⟩) hb6).trans p0
    have q1 := (HB5.out.cell (p := ⟨b6, o6 + i * 3 + 1, none⟩) hb6).trans p1
    have q2 := (HB5.out.cell (p := ⟨b6, o6 + i * 3 + 2, none⟩) hb6).trans p2
    have HTK : Hid (l.take (i + 1) = l.take i ++ [l[i]]) := hid (List.take_succ_eq_append_getElem hil)
    generalize l[i] = e at q0 q1 q2 HTK p0 p1 p2
    obtain ⟨px, py, pt⟩ := e
    dsimp only at q0 q1 q2
    clear p0 p1 p2 hc6 hil
    cases hls : lessE (px, py, pt) (v, u, 0) with
    | true =>
     have HLS := hid hls
     clear hls
     go_wp2_with fail
     go_region_held3 (fun w' => w'.cell? ⟨b6, o6 + i * 3, none⟩ = some (.int .i64 px) ∧ w'.cell? ⟨b6, o6 + i * 3 + 1, none⟩ = some (.int .i64 py) ∧ w'.cell? ⟨b6, o6 + i * 3 + 2, none⟩ = some (.int .i64 pt) ∧ w'.cell? ⟨K, 0, none⟩ = some (.int .i64 v) ∧ w'.cell? ⟨K, 1, none⟩ = some (.int .i64 u) ∧ w'.cell? ⟨K, 2, none⟩ = some (.int .i64 0))
      (first | go_keep | (go_split_ands; and_intros <;> (first | (refine cell_later (by assumption) ?_; first | assumption | (rw [Qt.cell (qt_of _ _)]; assumption) | (rw [Qt.cell (qt_drew _)]; assumption)) | (refine cell_later (bel_new _ _) ?_; assumption))) | (refine cell_later (by assumption) ?_; first | assumption | (rw [Qt.cell (qt_of _ _)]; assumption) | (rw [Qt.cell (qt_drew _)]; assumption)) | (refine cell_later (bel_new _ _) ?_; assumption))
      ((go_at_call 35; (with_reducible refine (rless_is true HLS.out _).mono ?_); rintro e w5 ⟨rfl, b5⟩))
     all_goals
      have B95 : Below wr.heap.size wr w5 := Bl.call (Bl.qt (Below.refl _ _) (by first | exact qt_drew _ | exact qt_of _ _ | exact Qt.refl _)) b5
      have D5 := hid (Dr.out.on B95)
      have HB6 := hid (HBr.out.trans (B95.mono HBr.out.size))
      have HB7 := hid (Bl.call HB4.out HB6.out)
      have HO5 := hid (own_below HO.out B95)
      have HS5 := hid (HSr.out.call B95)
      clear k0 k1 k2 b5
      have q0' := (B95.cell (p := ⟨b6, o6 + i * 3, none⟩) (World.block_lt_of_cell? _ ⟨b6, o6 + i * 3, none⟩ q0)).trans q0
      have q1' := (B95.cell (p := ⟨b6, o6 + i * 3 + 1, none⟩) (World.block_lt_of_cell? _ ⟨b6, o6 + i * 3 + 1, none⟩ q1)).trans q1
      have q2' := (B95.cell (p := ⟨b6, o6 + i * 3 + 2, none⟩) (World.block_lt_of_cell? _ ⟨b6, o6 + i * 3 + 2, none⟩ q2)).trans q2
      clear q0 q1 q2 B95
      have HZ := hid HB6.out.size
      have hby : (i + 1) * 24 ≤ 140737488355328 := by omega
      go_wp2_with (at_builtin; (refine wl_app1 rfl _ _ Tedg rfl (news := [.int .i64 px, .int .i64 py, .int .i64 pt]) rfl HO5.out rfl rfl (eds_one [(px, py, pt)]) hby HZ.out ?_))
      intro v9 w9 o9 b9
      have O9 : Hid (w9.ownsRow w4.heap.size 35 3 v9 (i + 1) (eds (l.take (i + 1)))) := hid (by rw [HTK.out, ← eds_app]; exact o9)
      have B9 := hid (HB6.out.trans b9)
      clear o9 b9
      go_wp2_with fail
      go_roundw
      case rel => exact ⟨i + 1, by go_num, by omega, O9, B9⟩
      case measure => simp [intOf]; omega
    | false =>
     have HLS := hid hls
     clear hls HTK
     go_wp2_with fail
     go_region_held3 (fun w' => w'.cell? ⟨b6, o6 + i * 3, none⟩ = some (.int .i64 px) ∧ w'.cell? ⟨b6, o6 + i * 3 + 1, none⟩ = some (.int .i64 py) ∧ w'.cell? ⟨b6, o6 + i * 3 + 2, none⟩ = some (.int .i64 pt) ∧ w'.cell? ⟨K, 0, none⟩ = some (.int .i64 v) ∧ w'.cell? ⟨K, 1, none⟩ = some (.int .i64 u) ∧ w'.cell? ⟨K, 2, none⟩ = some (.int .i64 0))
      (first | go_keep | (go_split_ands; and_intros <;> (first | (refine cell_later (by assumption) ?_; first | assumption | (rw [Qt.cell (qt_of _ _)]; assumption) | (rw [Qt.cell (qt_drew _)]; assumption)) | (refine cell_later (bel_new _ _) ?_; assumption))) | (refine cell_later (by assumption) ?_; first | assumption | (rw [Qt.cell (qt_of _ _)]; assumption) | (rw [Qt.cell (qt_drew _)]; assumption)) | (refine cell_later (bel_new _ _) ?_; assumption))
      ((go_at_call 35; (with_reducible refine (rless_is false HLS.out _).mono ?_); rintro e w5 ⟨rfl, b5⟩))
     all_goals
      have B95 : Below wr.heap.size wr w5 := Bl.call (Bl.qt (Below.refl _ _) (by first | exact qt_drew _ | exact qt_of _ _ | exact Qt.refl _)) b5
      have D5 := hid (Dr.out.on B95)
      have HB6 := hid (HBr.out.trans (B95.mono HBr.out.size))
      have HB7 := hid (Bl.call HB4.out HB6.out)
      have HO5 := hid (own_below HO.out B95)
      have HS5 := hid (HSr.out.call B95)
      clear k0 k1 k2 b5
      clear q0 q1 q2 B95
      have hsl2 : ∀ w : World, (Instr.slice 26 (.slice (some ⟨b6, o6, none⟩) m c) (some (.int .i64 (i : Int))) none none).run Tryz.prog w = .ok (.slice (cutA (some ⟨b6, o6, none⟩) c i 3) (m - i) (c - i)) w := run_drop_of Tedg (some ⟨b6, o6, none⟩) m c i (by omega)
      have U2 : Hid (Sl w w.heap.size 3 (.slice (cutA (some ⟨b6, o6, none⟩) c i 3) (m - i) (c - i)) (m - i) (eds (l.drop i))) := hid (by rw [← eds_drop]; exact HS.out.drop (by omega))
      generalize cutA (some ⟨b6, o6, none⟩) c i 3 = P2 at *
      have z3 : (i : Int) ≤ (m : Int) := by omega
      have k0 := D5.out.cell 0
      have k1 := D5.out.cell 1
      have k2 := D5.out.cell 2
      have HZ := hid HB6.out.size
      have hby : (i + 1) * 24 ≤ 140737488355328 := by omega
      have hby2 : (i + 1 + (m - i)) * 24 ≤ 140737488355328 := by omega
      go_wp2_with (at_builtin; (refine wl_app1 rfl _ _ Tedg rfl (news := [.int .i64 v, .int .i64 u, .int .i64 0]) rfl HO5.out rfl rfl (eds_one [(v, u, 0)]) hby HZ.out ?_))
      intro v9 w9 o9 b9
      have O9 : Hid (w9.ownsRow w4.heap.size 35 3 v9 (i + 1) (eds (l.take i ++ [(v, u, 0)]))) := hid (by rw [← eds_app]; simpa [eds] using o9)
      have B9 := hid (HB6.out.trans b9)
      have HW9 := hid (HB4.out.trans (B9.out.mono HB4.out.size))
      clear o9 b9
      have HZ9 := hid B9.out.size
      have U29 : Hid (Sl w9 w.heap.size 3 (.slice P2 (m - i) (c - i)) (m - i) (eds (l.drop i))) := hid (U2.out.below HW9.out (Nat.le_refl _))
      go_wp2_with (at_builtin; (refine wl_app rfl _ _ Tedg rfl rfl O9.out rfl U29.out (eds_one _) hby2 HZ9.out ?_))
      intro v10 w10 o10 b10
      have S10 : Hid (Sl w10 w10.heap.size 3 v10 (i + 1 + (m - i)) (eds (l.take i ++ [(v, u, 0)] ++ l.drop i))) := hid (by have h := Sl.of_own o10; rw [← eds_app]; exact h)
      have B10 := hid b10
      have F10 : Hid (∀ K, K < w.heap.size → Off K v10) := hid (fun K hK => own_isOff o10 (Nat.lt_of_lt_of_le hK HB4.out.size))
      clear o10 b10
      go_wp2
      go_ret2
      exact ⟨_, _, i + 1 + (m - i), l.take i ++ [(v, u, 0)] ++ l.drop i, rfl, by omega, S10.out, fun K hK _ => F10.out K hK, HB4.out.trans ((B9.out.trans B10.out).mono HB4.out.size)⟩
   case neg =>
    have j0 : ¬ (i : Int) < (m : Int) := by omega
    go_wp2_with fail
    go_quiet (fail)
    rename_i nq
    obtain ⟨w5, hw5⟩ : ∃ W, W = wr.drewN nq := ⟨_, rfl⟩
    have B95 : Below wr.heap.size wr w5 := by rw [hw5]; exact (qt_of _ _).bel
    rw [← hw5]
    have HW5 := hid hw5
    clear hw5
    have D5 := hid (Dr.out.on B95)
    have HB6 := hid (HBr.out.trans (B95.mono HBr.out.size))
    have HO5 := hid (own_below HO.out B95)
    clear k0 k1 k2 B95
    have hsl2 : ∀ w : World, (Instr.slice 26 (.slice A m c) (some (.int .i64 (i : Int))) none none).run Tryz.prog w = .ok (.slice (cutA A c i 3) (m - i) (c - i)) w := run_drop_of Tedg A m c i (by omega)
    have U2 : Hid (Sl w w.heap.size 3 (.slice (cutA A c i 3) (m - i) (c - i)) (m - i) (eds (l.drop i))) := hid (by rw [← eds_drop]; exact HS.out.drop (by omega))
    generalize cutA A c i 3 = P2 at *
    have z3 : (i : Int) ≤ (m : Int) := by omega
    have k0 := D5.out.cell 0
    have k1 := D5.out.cell 1
    have k2 := D5.out.cell 2
    have HZ := hid HB6.out.size
    have hby : (i + 1) * 24 ≤ 140737488355328 := by omega
    have hby2 : (i + 1 + (m - i)) * 24 ≤ 140737488355328 := by omega
    go_wp2_with (at_builtin; (refine wl_app1 rfl _ _ Tedg rfl (news := [.int .i64 v, .int .i64 u, .int .i64 0]) rfl HO5.out rfl rfl (eds_one [(v, u, 0)]) hby HZ.out ?_))
    intro v9 w9 o9 b9
    have O9 : Hid (w9.ownsRow w4.heap.size 35 3 v9 (i + 1) (eds (l.take i ++ [(v, u, 0)]))) := hid (by rw [← eds_app]; simpa [eds] using o9)
    have B9 := hid (HB6.out.trans b9)
    have HW9 := hid (HB4.out.trans (B9.out.mono HB4.out.size))
    clear o9 b9
    have HZ9 := hid B9.out.size
    have U29 : Hid (Sl w9 w.heap.size 3 (.slice P2 (m - i) (c - i)) (m - i) (eds (l.drop i))) := hid (U2.out.below HW9.out (Nat.le_refl _))
    go_wp2_with (at_builtin; (refine wl_app rfl _ _ Tedg rfl rfl O9.out rfl U29.out (eds_one _) hby2 HZ9.out ?_))
    intro v10 w10 o10 b10
    have S10 : Hid (Sl w10 w10.heap.size 3 v10 (i + 1 + (m - i)) (eds (l.take i ++ [(v, u, 0)] ++ l.drop i))) := hid (by have h := Sl.of_own o10; rw [← eds_app]; exact h)
    have B10 := hid b10
    have F10 : Hid (∀ K, K < w.heap.size → Off K v10) := hid (fun K hK => own_isOff o10 (Nat.lt_of_lt_of_le hK HB4.out.size))
    clear o10 b10
    go_wp2
    go_ret2
    exact ⟨_, _, i + 1 + (m - i), l.take i ++ [(v, u, 0)] ++ l.drop i, rfl, by omega, S10.out, fun K hK _ => F10.out K hK, HB4.out.trans ((B9.out.trans B10.out).mono HB4.out.size)⟩
 case neg =>
  have hq1 : u ≤ v := by omega
  go_enter Tryz.func17, Tryz.ntmps17
  go_wp2_with fail
  refine (rtright_is HS.out true ⟨fun _ => rfl, fun _ => HT.out⟩).mono ?_; rintro e w2 ⟨rfl, b2⟩
  have HB2 := hid b2
  have HS2 := hid (HS.out.call b2)
  clear b2
  go_wp2_with fail
  refine (rin_yes HU.out _).mono ?_; rintro e w' ⟨rfl, rfl⟩
  go_wp2_with fail
  refine (rin_yes HV.out _).mono ?_; rintro e w' ⟨rfl, rfl⟩
  go_wp2_with fail
  refine (rfindE_any (u := u) (v := v) HS2.out).mono ?_; rintro e w' ⟨z, rfl, hz, rfl⟩
  rcases hz with rfl | ⟨z0, z1⟩
  case inr =>
   go_wp2
   go_ret2
   exact ⟨_, _, m, l, rfl, by omega, HS2.out, fun _ _ h => h, HB2.out⟩
  case inl =>
  obtain ⟨w4, hw4⟩ : ∃ W, W = w2.alloc (.cells #[.int .i64 u, .int .i64 v, .int .i64 0] 35) := ⟨_, rfl⟩
  obtain ⟨K, hK⟩ : ∃ K, K = w2.heap.size := ⟨_, rfl⟩
  have D4 : Hid (Blk w4 K 35 [.int .i64 u, .int .i64 v, .int .i64 0]) := hid (by rw [hw4, hK]; exact Blk.new _ _ _)
  have HB4 : Hid (Below w.heap.size w w4) := hid (by rw [hw4]; exact Bl.new HB2.out _)
  have HS4 : Hid (Sl w4 w4.heap.size 3 (.slice A m c) m (eds l)) := hid (by rw [hw4]; exact HS2.out.new _)
  have HW4 := hid hw4
  have HK := hid hK
  clear hw4 hK HB2 HS2
  go_wp2_with fail
  rw [← HK.out, ← HW4.out]
  go_loopw [12, 13] (fun ov iv wr => ∃ i : Nat, iv = .int .i64 (i : Int) ∧ i ≤ m ∧ Hid (wr.ownsRow w4.heap.size 35 3 ov i (eds (l.take i))) ∧ Hid (Below w4.heap.size w4 wr)) (fun _ iv _ => m - (intOf iv).toNat)
  case atStart => exact ⟨0, rfl, Nat.zero_le _, hid (World.ownsRow_nil _ _ _ _), hid (Below.refl _ _)⟩
  case round =>
   obtain ⟨i, rfl, hi, HO, HBr⟩ := hrel
   have Dr := hid (D4.out.below HBr.out D4.out.lt)
   have HSr := hid (HS4.out.call HBr.out)
   have HB5 := hid (Bl.call HB4.out HBr.out)
   have k0 := Dr.out.cell 0
   have k1 := Dr.out.cell 1
   have k2 := Dr.out.cell 2
   have hi63 : (i : Int) ≤ 1000 := by omega
   by_cases hlt : i < m
   case pos =>
    have j0 : (i : Int) < (m : Int) := by omega
    have hil : i < l.length := by rw [HL.out]; exact hlt
    obtain ⟨b6, o6, rfl, hb6, hc6⟩ := HX.out (by omega)
    obtain ⟨p0, p1, p2⟩ := eds_cell hc6 hil
    have q0 := (HB5.out.cell (p := ⟨b6, o6 + i * 3, none⟩) hb6).trans p0
    have q1 := (HB5.out.cell (p := ⟨b6, o6 + i * 3 + 1, none⟩) hb6).trans p1
    have q2 := (HB5.out.cell (p := ⟨b6, o6 + i * 3 + 2, none⟩) hb6).trans p2
    have HTK : Hid (l.take (i + 1) = l.take i ++ [l[i]]) := hid (List.take_succ_eq_append_getElem hil)
    generalize l[i] = e at q0 q1 q2 HTK p0 p1 p2
    obtain ⟨px, py, pt⟩ := e
    dsimp only at q0 q1 q2
    clear p0 p1 p2 hc6 hil
    cases hls : lessE (px, py, pt) (u, v, 0) with
    | true =>
     have HLS := hid hls
     clear hls
     go_wp2_with fail
     go_region_held3 (fun w' => w'.cell? ⟨b6, o6 + i * 3, none⟩ = some (.int .i64 px) ∧ w'.cell? ⟨b6, o6 + i * 3 + 1, none⟩ = some (.int .i64 py) ∧ w'.cell? ⟨b6, o6 + i * 3 + 2, none⟩ = some (.int .i64 pt) ∧ w'.cell? ⟨K, 0, none⟩ = some (.int .i64 u) ∧ w'.cell? ⟨K, 1, none⟩ = some (.int .i64 v) ∧ w'.cell? ⟨K, 2, none⟩ = some (.int .i64 0))
      (first | go_keep | (go_split_ands; and_intros <;> (first | (refine cell_later (by assumption) ?_; first | assumption | (rw [Qt.cell (qt_of _ _)]; assumption) | (rw [Qt.cell (qt_drew _)]; assumption)) | (refine cell_later (bel_new _ _) ?_; assumption))) | (refine cell_later (by assumption) ?_; first | assumption | (rw [Qt.cell (qt_of _ _)]; assumption) | (rw [Qt.cell (qt_drew _)]; assumption)) | (refine cell_later (bel_new _ _) ?_; assumption))
      ((go_at_call 35; (with_reducible refine (rless_is true HLS.out _).mono ?_); rintro e w5 ⟨rfl, b5⟩))
     all_goals
      have B95 : Below wr.heap.size wr w5 := Bl.call (Bl.qt (Below.refl _ _) (by first | exact qt_drew _ | exact qt_of _ _ | exact Qt.refl _)) b5
      have D5 := hid (Dr.out.on B95)
      have HB6 := hid (HBr.out.trans (B95.mono HBr.out.size))
      have HB7 := hid (Bl.call HB4.out HB6.out)
      have HO5 := hid (own_below HO.out B95)
      have HS5 := hid (HSr.out.call B95)
      clear k0 k1 k2 b5
      have q0' := (B95.cell (p := ⟨b6, o6 + i * 3, none⟩) (World.block_lt_of_cell? _ ⟨b6, o6 + i * 3, none⟩ q0)).trans q0
      have q1' := (B95.cell (p := ⟨b6, o6 + i * 3 + 1, none⟩) (World.block_lt_of_cell? _ ⟨b6, o6 + i * 3 + 1, none⟩ q1)).trans q1
      have q2' := (B95.cell (p := ⟨b6, o6 + i * 3 + 2, none⟩) (World.block_lt_of_cell? _ ⟨b6, o6 + i * 3 + 2, none⟩ q2)).trans q2
      clear q0 q1 q2 B95
      have HZ := hid HB6.out.size
      have hby : (i + 1) * 24 ≤ 140737488355328 := by omega
      go_wp2_with (at_builtin; (refine wl_app1 rfl _ _ Tedg rfl (news := [.int .i64 px, .int .i64 py, .int .i64 pt]) rfl HO5.out rfl rfl (eds_one [(px, py, pt)]) hby HZ.out ?_))
      intro v9 w9 o9 b9
      have O9 : Hid (w9.ownsRow w4.heap.size 35 3 v9 (i + 1) (eds (l.take (i + 1)))) := hid (by rw [HTK.out, ← eds_app]; exact o9)
      have B9 := hid (HB6.out.trans b9)
      clear o9 b9
      go_wp2_with fail
      go_roundw
      case rel => exact ⟨i + 1, by go_num, by omega, O9, B9⟩
      case measure => simp [intOf]; omega
    | false =>
     have HLS := hid hls
     clear hls HTK
     go_wp2_with fail
     go_region_held3 (fun w' => w'.cell? ⟨b6, o6 + i * 3, none⟩ = some (.int .i64 px) ∧ w'.cell? ⟨b6, o6 + i * 3 + 1, none⟩ = some (.int .i64 py) ∧ w'.cell? ⟨b6, o6 + i * 3 + 2, none⟩ = some (.int .i64 pt) ∧ w'.cell? ⟨K, 0, none⟩ = some (.int .i64 u) ∧ w'.cell? ⟨K, 1, none⟩ = some (.int .i64 v) ∧ w'.cell? ⟨K, 2, none⟩ = some (.int .i64 0))
      (first | go_keep | (go_split_ands; and_intros <;> (first | (refine cell_later (by assumption) ?_; first | assumption | (rw [Qt.cell (qt_of _ _)]; assumption) | (rw [Qt.cell (qt_drew _)]; assumption)) | (refine cell_later (bel_new _ _) ?_; assumption))) | (refine cell_later (by assumption) ?_; first | assumption | (rw [Qt.cell (qt_of _ _)]; assumption) | (rw [Qt.cell (qt_drew _)]; assumption)) | (refine cell_later (bel_new _ _) ?_; assumption))
      ((go_at_call 35; (with_reducible refine (rless_is false HLS.out _).mono ?_); rintro e w5 ⟨rfl, b5⟩))
     all_goals
      have B95 : Below wr.heap.size wr w5 := Bl.call (Bl.qt (Below.refl _ _) (by first | exact qt_drew _ | exact qt_of _ _ | exact Qt.refl _)) b5
      have D5 := hid (Dr.out.on B95)
      have HB6 := hid (HBr.out.trans (B95.mono HBr.out.size))
      have HB7 := hid (Bl.call HB4.out HB6.out)
      have HO5 := hid (own_below HO.out B95)
      have HS5 := hid (HSr.out.call B95)
      clear k0 k1 k2 b5
      clear q0 q1 q2 B95
      have hsl2 : ∀ w : World, (Instr.slice 26 (.slice (some ⟨b6, o6, none⟩) m c) (some (.int .i64 (i : Int))) none none).run Tryz.prog w = .ok (.slice (cutA (some ⟨b6, o6, none⟩) c i 3) (m - i) (c - i)) w := run_drop_of Tedg (some ⟨b6, o6, none⟩) m c i (by omega)
      have U2 : Hid (Sl w w.heap.size 3 (.slice (cutA (some ⟨b6, o6, none⟩) c i 3) (m - i) (c - i)) (m - i) (eds (l.drop i))) := hid (by rw [← eds_drop]; exact HS.out.drop (by omega))
      generalize cutA (some ⟨b6, o6, none⟩) c i 3 = P2 at *
      have z3 : (i : Int) ≤ (m : Int) := by omega
      have k0 := D5.out.cell 0
      have k1 := D5.out.cell 1
      have k2 := D5.out.cell 2
      have HZ := hid HB6.out.size
      have hby : (i + 1) * 24 ≤ 140737488355328 := by omega
      have hby2 : (i + 1 + (m - i)) * 24 ≤ 140737488355328 := by omega
      go_wp2_with (at_builtin; (refine wl_app1 rfl _ _ Tedg rfl (news := [.int .i64 u, .int .i64 v, .int .i64 0]) rfl HO5.out rfl rfl (eds_one [(u, v, 0)]) hby HZ.out ?_))
      intro v9 w9 o9 b9
      have O9 : Hid (w9.ownsRow w4.heap.size 35 3 v9 (i + 1) (eds (l.take i ++ [(u, v, 0)]))) := hid (by rw [← eds_app]; simpa [eds] using o9)
      have B9 := hid (HB6.out.trans b9)
      have HW9 := hid (HB4.out.trans (B9.out.mono HB4.out.size))
      clear o9 b9
      have HZ9 := hid B9.out.size
      have U29 : Hid (Sl w9 w.heap.size 3 (.slice P2 (m - i) (c - i)) (m - i) (eds (l.drop i))) := hid (U2.out.below HW9.out (Nat.le_refl _))
      go_wp2_with (at_builtin; (refine wl_app rfl _ _ Tedg rfl rfl O9.out rfl U29.out (eds_one _) hby2 HZ9.out ?_))
      intro v10 w10 o10 b10
      have S10 : Hid (Sl w10 w10.heap.size 3 v10 (i + 1 + (m - i)) (eds (l.take i ++ [(u, v, 0)] ++ l.drop i))) := hid (by have h := Sl.of_own o10; rw [← eds_app]; exact h)
      have B10 := hid b10
      have F10 : Hid (∀ K, K < w.heap.size → Off K v10) := hid (fun K hK => own_isOff o10 (Nat.lt_of_lt_of_le hK HB4.out.size))
      clear o10 b10
      go_wp2
      go_ret2
      exact ⟨_, _, i + 1 + (m - i), l.take i ++ [(u, v, 0)] ++ l.drop i, rfl, by omega, S10.out, fun K hK _ => F10.out K hK, HB4.out.trans ((B9.out.trans B10.out).mono HB4.out.size)⟩
   case neg =>
    have j0 : ¬ (i : Int) < (m : Int) := by omega
    go_wp2_with fail
    go_quiet (fail)
    rename_i nq
    obtain ⟨w5, hw5⟩ : ∃ W, W = wr.drewN nq := ⟨_, rfl⟩
    have B95 : Below wr.heap.size wr w5 := by rw [hw5]; exact (qt_of _ _).bel
    rw [← hw5]
    have HW5 := hid hw5
    clear hw5
    have D5 := hid (Dr.out.on B95)
    have HB6 := hid (HBr.out.trans (B95.mono HBr.out.size))
    have HO5 := hid (own_below HO.out B95)
    clear k0 k1 k2 B95
    have hsl2 : ∀ w : World, (Instr.slice 26 (.slice A m c) (some (.int .i64 (i : Int))) none none).run Tryz.prog w = .ok (.slice (cutA A c i 3) (m - i) (c - i)) w := run_drop_of Tedg A m c i (by omega)
    have U2 : Hid (Sl w w.heap.size 3 (.slice (cutA A c i 3) (m - i) (c - i)) (m - i) (eds (l.drop i))) := hid (by rw [← eds_drop]; exact HS.out.drop (by omega))
    generalize cutA A c i 3 = P2 at *
    have z3 : (i : Int) ≤ (m : Int) := by omega
    have k0 := D5.out.cell 0
    have k1 := D5.out.cell 1
    have k2 := D5.out.cell 2
    have HZ := hid HB6.out.size
    have hby : (i + 1) * 24 ≤ 140737488355328 := by omega
    have hby2 : (i + 1 + (m - i)) * 24 ≤ 140737488355328 := by omega
    go_wp2_with (at_builtin; (refine wl_app1 rfl _ _ Tedg rfl (news := [.int .i64 u, .int .i64 v, .int .i64 0]) rfl HO5.out rfl rfl (eds_one [(u, v, 0)]) hby HZ.out ?_))
    intro v9 w9 o9 b9
    have O9 : Hid (w9.ownsRow w4.heap.size 35 3 v9 (i + 1) (eds (l.take i ++ [(u, v, 0)]))) := hid (by rw [← eds_app]; simpa [eds] using o9)
    have B9 := hid (HB6.out.trans b9)
    have HW9 := hid (HB4.out.trans (B9.out.mono HB4.out.size))
    clear o9 b9
    have HZ9 := hid B9.out.size
    have U29 : Hid (Sl w9 w.heap.size 3 (.slice P2 (m - i) (c - i)) (m - i) (eds (l.drop i))) := hid (U2.out.below HW9.out (Nat.le_refl _))
    go_wp2_with (at_builtin; (refine wl_app rfl _ _ Tedg rfl rfl O9.out rfl U29.out (eds_one _) hby2 HZ9.out ?_))
    intro v10 w10 o10 b10
    have S10 : Hid (Sl w10 w10.heap.size 3 v10 (i + 1 + (m - i)) (eds (l.take i ++ [(u, v, 0)] ++ l.drop i))) := hid (by have h := Sl.of_own o10; rw [← eds_app]; exact h)
    have B10 := hid b10
    have F10 : Hid (∀ K, K < w.heap.size → Off K v10) := hid (fun K hK => own_isOff o10 (Nat.lt_of_lt_of_le hK HB4.out.size))
    clear o10 b10
    go_wp2
    go_ret2
    exact ⟨_, _, i + 1 + (m - i), l.take i ++ [(u, v, 0)] ++ l.drop i, rfl, by omega, S10.out, fun K hK _ => F10.out K hK, HB4.out.trans ((B9.out.trans B10.out).mono HB4.out.size)⟩
end Go.Proofs.YtahodfikhocobaaGreatDoor
