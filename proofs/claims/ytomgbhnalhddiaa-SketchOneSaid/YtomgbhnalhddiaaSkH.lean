/- The walk of SketchOf. -/
import Derived.Test.YtomgbhnalhddiaaSkG
import Derived.Deep.DeepCutAuto
import Derived.Deep.Cut
namespace Go.Proofs.Ytomgbhnalhddiaa
open Go.RowKit
set_option linter.unusedVariables false
set_option linter.unusedSimpArgs false
attribute [local go_sem ↓] Go.wp_at_zero Go.wp_at_succ

theorem tog_len_small {l : List (Nat × Nat)} {V n N : Nat} {ws : List Nat} (hn : n < 18446744073709551616) (h : Sk.Small ws ∧ ws.length = N) : Sk.Small (Sk.tog l V n ws) ∧ (Sk.tog l V n ws).length = N := ⟨Sk.small_tog hn h.1, by rw [Sk.len_tog]; exact h.2⟩

set_option maxRecDepth 100000 in
set_option maxHeartbeats 8000000 in
theorem sketchOf_walk (v1 : Value) (R : Nat) (l : List (Nat × Nat)) (V : Int) (v2 : Value) (m : Nat) (ns : List Nat) (mask : Int) (w : World) (hl : Sl w w.heap.size 2 v1 R (hcs l)) (sh : ∀ h ∈ l, HSmall h) (hm : Sl w w.heap.size 1 v2 m (us ns)) (sn : Sk.Small ns) (hmask : 0 ≤ mask ∧ mask ≤ 4294967295) :
    Calls Try.prog 3 #[v1, .int .i64 V, v2, .int .u32 mask] w (IsTrue w) := by
  have hll : l.length = R := by have := hl.len; rw [len_hcs] at this; omega
  have hnl : ns.length = m := by have := hm.len; rw [len_us] at this; omega
  have HLN := hid (And.intro hll hnl)
  have HSM := hid (And.intro sh sn)
  have HLw := hid hl
  have HNw := hid hm
  obtain ⟨A1, c1, rfl, _, hcm1, _, _⟩ := hl
  obtain ⟨A2, c2, rfl, hnc2, hcm2, _, hx2⟩ := hm
  have HX2 := hid hx2
  have hmi : (m : Int) ≤ 9223372036854775807 := by unfold maxLen at hcm2; omega
  have hRi : (R : Int) ≤ 9223372036854775807 := by unfold maxLen at hcm1; omega
  clear hx2 hll hnl sh sn hcm2 hcm1
  by_cases hz : SzOk (R : Int) V
  case neg =>
    have HZ := hid hz
    have h4 : (R : Int) < 1 ∨ (1 ≤ (R : Int) ∧ 8 < (R : Int)) ∨ (1 ≤ (R : Int) ∧ (R : Int) ≤ 8 ∧ V < 1) ∨ (1 ≤ (R : Int) ∧ (R : Int) ≤ 8 ∧ 1 ≤ V ∧ 61 < V) := by unfold SzOk at hz; omega
    clear hz
    rcases h4 with h | ⟨h, h'⟩ | ⟨h, h', h''⟩ | ⟨h, h', h'', h3⟩
    all_goals
      go_enter Try.func3, Try.ntmps3
      go_wp2_with fail
      refine (snew_no HZ.out _).mono ?_; rintro e w1 ⟨rfl, b1⟩
      have HB1 := hid b1
      clear b1
      go_wp2_with fail
      refine (skAwake_any _).mono ?_; rintro e w' ⟨rfl, hb⟩
      go_wp2
      go_ret
      exact ⟨by first | rfl | exact ret_bool (by simp; omega) | exact ret_bool (by simp), Bl.call (Bl.new HB1.out _) hb⟩
  obtain ⟨V, rfl⟩ := Int.eq_ofNat_of_zero_le (show 0 ≤ V by obtain ⟨_, _, h, _⟩ := hz; omega)
  have HZ := hid hz
  obtain ⟨hRV, hN1, hN2, hsok⟩ := szN hz
  obtain ⟨N, hN⟩ : ∃ N, N = R * V := ⟨_, rfl⟩
  rw [← hN] at hRV hN1 hN2 hsok
  have HSOK := hid hsok
  have HNE := hid hN
  have HRV := hid hRV
  obtain ⟨z1, z2, z3, z4⟩ := hz
  clear hsok hN hRV
  have HB : Hid (Below w.heap.size w w) := hid (Below.refl _ _)
  by_cases hm30 : m ≤ 30
  case neg =>
    have hmi2 : ¬ (m : Int) ≤ 30 := by omega
    go_enter Try.func3, Try.ntmps3
    go_wp2_with fail
    refine (snew_ok HZ.out HRV.out.symm hN1 _).mono ?_; rintro e w1 ⟨v, rfl, hs, b1⟩
    have HB1 := hid b1
    obtain ⟨An, cn, rfl, _, _, _, _⟩ := hs
    clear b1
    go_wp2_with fail
    refine (skAwake_any _).mono ?_; rintro e w' ⟨rfl, hb⟩
    go_wp2
    go_ret
    exact ⟨by first | rfl | exact ret_bool (by simp; omega) | exact ret_bool (by simp), Bl.call (Bl.new HB1.out _) hb⟩
  have hmi2 : (m : Int) ≤ 30 := by omega
  go_enter Try.func3, Try.ntmps3
  go_wp2_with fail
  refine (snew_ok HZ.out HRV.out.symm hN1 _).mono ?_; rintro e w1 ⟨vn, rfl, sn, bn⟩
  replace HLw := hid (HLw.out.call bn)
  replace HNw := hid (HNw.out.call bn)
  replace HB := hid (Bl.call HB.out bn)
  have S_n := hid sn
  clear sn bn
  obtain ⟨An, cn, hvn, _, _, _, _⟩ := S_n.out
  subst hvn
  obtain ⟨w2, hw⟩ : ∃ z, z = w1.alloc (.cells #[.int .i64 (R : Int), .int .i64 (V : Int), .slice An N cn] 26) := ⟨_, rfl⟩
  obtain ⟨Ks, hK⟩ : ∃ z, z = w1.heap.size := ⟨_, rfl⟩
  have b : Below w1.heap.size w1 w2 := by rw [hw]; exact bel_new _ _
  have V_s' : Hid (Blk w2 Ks 26 [.int .i64 (R : Int), .int .i64 (V : Int), .slice An N cn]) := hid (by rw [hw, hK]; exact Blk.new _ _ _)
  have S_s' := hid (S_n.out.call b)
  have LO_s : Hid (w.heap.size ≤ Ks) := hid (by rw [hK]; exact HB.out.size)
  replace HLw := hid (HLw.out.call b)
  replace HNw := hid (HNw.out.call b)
  replace HB := hid (Bl.call HB.out b)
  have V_s := V_s'
  have HW2 := hid hw
  have HK2 := hid hK
  clear b hw hK V_s' S_n
  have S_s := S_s'
  clear S_s'
  go_upto_region 5 with (fail)
  rw [← HW2.out, ← HK2.out]
  have HRP : Hid (Sl w2 w2.heap.size 1 (.slice An N cn) N (us (List.replicate N 0))) := hid S_s.out
  go_cut [13, 14] (fun sa sb wx => ∃ Ka Kb, sa = .pointer (some ⟨Ka, 0, none⟩) ∧ sb = .pointer (some ⟨Kb, 0, none⟩) ∧ Hid (Blk wx Ka 26 [.int .i64 (R : Int), .int .i64 (V : Int), .slice An N cn] ∧ w.heap.size ≤ Ka ∧ Ka ≠ Ks ∧ Ka ≠ Kb) ∧ Hid (Blk wx Kb 26 [.int .i64 (R : Int), .int .i64 (V : Int), .slice An N cn] ∧ w.heap.size ≤ Kb ∧ Kb ≠ Ks) ∧ Hid (Blk wx Ks 26 [.int .i64 (R : Int), .int .i64 (V : Int), .slice An N cn]) ∧ Hid (Sl wx wx.heap.size 1 (.slice An N cn) N (us (List.replicate N 0))) ∧ Hid (Sl wx wx.heap.size 2 (.slice A1 R c1) R (hcs l)) ∧ Hid (Sl wx wx.heap.size 1 (.slice A2 m c2) m (us ns)) ∧ Hid (Below w.heap.size w wx))
  case first =>
    have ks0 := V_s.out.cell 0
    have ks1 := V_s.out.cell 1
    have ks2 := V_s.out.cell 2
    have y0 := (V_s.out.alloc (.cells #[.int .i64 0, .int .i64 0, .slice none 0 0] 26)).cell 0
    have x0 := ((V_s.out.alloc (.cells #[.int .i64 0, .int .i64 0, .slice none 0 0] 26)).alloc (.cells #[.int .i64 0, .int .i64 0, .slice none 0 0] 26)).cell 0
    have y1 := (V_s.out.alloc (.cells #[.int .i64 0, .int .i64 0, .slice none 0 0] 26)).cell 1
    have x1 := ((V_s.out.alloc (.cells #[.int .i64 0, .int .i64 0, .slice none 0 0] 26)).alloc (.cells #[.int .i64 0, .int .i64 0, .slice none 0 0] 26)).cell 1
    have y2 := (V_s.out.alloc (.cells #[.int .i64 0, .int .i64 0, .slice none 0 0] 26)).cell 2
    have x2 := ((V_s.out.alloc (.cells #[.int .i64 0, .int .i64 0, .slice none 0 0] 26)).alloc (.cells #[.int .i64 0, .int .i64 0, .slice none 0 0] 26)).cell 2
    have nk0 : Ks ≠ w2.heap.size := by have := V_s.out.lt; omega
    have nk1 : Ks ≠ w2.heap.size + 1 := by have := V_s.out.lt; omega
    go_region_held3 (fun w' => w'.cell? ⟨Ks, 0, none⟩ = some (.int .i64 (R : Int)) ∧ w'.cell? ⟨Ks, 1, none⟩ = some (.int .i64 (V : Int)) ∧ w'.cell? ⟨Ks, 2, none⟩ = some (.slice An N cn)) (first | go_keep | (go_split_ands; and_intros <;> (first | assumption | (refine cell_later (bel_new _ _) ?_; assumption) | (refine cell_later (bel_new _ _) ?_; refine cell_later (bel_new _ _) ?_; assumption) | (simp [*]; done)))) (fail)
    clear ks0 ks1 ks2
    clear x0 x1 x2 y0 y1 y2
    all_goals
      have qa : Below w2.heap.size w2 ((w2.alloc (.cells #[.int .i64 (R : Int), .int .i64 (V : Int), .slice An N cn] 26)).alloc (.cells #[.int .i64 (R : Int), .int .i64 (V : Int), .slice An N cn] 26)).drew := Bl.qt (Bl.new (bel_new _ _) _) (qt_drew _)
      have b0 : Blk ((w2.alloc (.cells #[.int .i64 (R : Int), .int .i64 (V : Int), .slice An N cn] 26)).alloc (.cells #[.int .i64 (R : Int), .int .i64 (V : Int), .slice An N cn] 26)).drew w2.heap.size 26 [.int .i64 (R : Int), .int .i64 (V : Int), .slice An N cn] := ((Blk.new w2 _ [.int .i64 (R : Int), .int .i64 (V : Int), .slice An N cn]).alloc (.cells #[.int .i64 (R : Int), .int .i64 (V : Int), .slice An N cn] 26)).on (qt_drew _).bel
      have b1 : Blk ((w2.alloc (.cells #[.int .i64 (R : Int), .int .i64 (V : Int), .slice An N cn] 26)).alloc (.cells #[.int .i64 (R : Int), .int .i64 (V : Int), .slice An N cn] 26)).drew (w2.heap.size + 1) 26 [.int .i64 (R : Int), .int .i64 (V : Int), .slice An N cn] := by have h := (Blk.new (w2.alloc (.cells #[.int .i64 (R : Int), .int .i64 (V : Int), .slice An N cn] 26)) 26 [.int .i64 (R : Int), .int .i64 (V : Int), .slice An N cn]).on (qt_drew _).bel; simpa using h
      have lo := HB.out.size
      have ne : w2.heap.size ≠ w2.heap.size + 1 := by omega
      go_wp2_with fail
      go_meet
      first
        | exact ⟨_, _, rfl, rfl, hid ⟨b0, lo, Ne.symm nk0, ne⟩, hid ⟨b1, by omega, Ne.symm nk1⟩, hid (V_s.out.on qa), hid (HRP.out.call qa), hid (HLw.out.call qa), hid (HNw.out.call qa), hid (Bl.call HB.out qa)⟩
        | exact ⟨_, _, rfl, rfl, hid ⟨b1, by omega, Ne.symm nk1, Ne.symm ne⟩, hid ⟨b0, lo, Ne.symm nk0⟩, hid (V_s.out.on qa), hid (HRP.out.call qa), hid (HLw.out.call qa), hid (HNw.out.call qa), hid (Bl.call HB.out qa)⟩
  case rest =>
    obtain ⟨Ka, Kb, rfl, rfl, V_a, V_b, V_s, S_s, HLw, HNw, HB⟩ := hcut
    clear HRP
    have LO_s' := LO_s
    have LO_a : Hid (w.heap.size ≤ Ka) := hid V_a.out.2.1
    have LO_b : Hid (w.heap.size ≤ Kb) := hid V_b.out.2.1
    have NEas : Hid (Ka ≠ Ks) := hid V_a.out.2.2.1
    have NEsa : Hid (Ks ≠ Ka) := hid (Ne.symm V_a.out.2.2.1)
    have NEab : Hid (Ka ≠ Kb) := hid V_a.out.2.2.2
    have NEba : Hid (Kb ≠ Ka) := hid (Ne.symm V_a.out.2.2.2)
    have NEbs : Hid (Kb ≠ Ks) := hid V_b.out.2.2
    have NEsb : Hid (Ks ≠ Kb) := hid (Ne.symm V_b.out.2.2)
    replace V_a := hid V_a.out.1
    replace V_b := hid V_b.out.1
    have HT0 : Hid (Sl wc wc.heap.size 1 (.slice An N cn) N (us (Sk.togs l V (ns.take 0) (List.replicate N 0)))) := hid S_s.out
    go_wp2_with fail
    go_loopw [83] (fun iv wr => ∃ (j : Nat) (A : Option Addr) (c : Nat) (Aa : Option Addr) (ca : Nat) (Ab : Option Addr) (cb : Nat) (wa wb : List Nat), iv = .int .i64 (j : Int) ∧ j ≤ m ∧ Hid (Sk.xors wa wb = Sk.togs l V (ns.take j) (List.replicate N 0) ∧ (Sk.Small wa ∧ wa.length = N) ∧ (Sk.Small wb ∧ wb.length = N)) ∧ Hid (Blk wr Ks 26 [.int .i64 (R : Int), .int .i64 (V : Int), .slice A N c]) ∧ Hid (Sl wr wr.heap.size 1 (.slice A N c) N (us (Sk.togs l V (ns.take j) (List.replicate N 0)))) ∧ Hid (Blk wr Ka 26 [.int .i64 (R : Int), .int .i64 (V : Int), .slice Aa N ca]) ∧ Hid (Sl wr wr.heap.size 1 (.slice Aa N ca) N (us wa)) ∧ Hid (Blk wr Kb 26 [.int .i64 (R : Int), .int .i64 (V : Int), .slice Ab N cb]) ∧ Hid (Sl wr wr.heap.size 1 (.slice Ab N cb) N (us wb)) ∧ Hid (Sl wr wr.heap.size 2 (.slice A1 R c1) R (hcs l)) ∧ Hid (Sl wr wr.heap.size 1 (.slice A2 m c2) m (us ns)) ∧ Hid (Below w.heap.size w wr)) (fun iv _ => m - (intOf iv).toNat)
    case atStart => exact ⟨0, _, _, _, _, _, _, List.replicate N 0, List.replicate N 0, rfl, Nat.zero_le _, hid ⟨by have h := Sk.xors_zero (List.replicate N 0); rw [List.length_replicate] at h; rw [h]; rfl, ⟨Sk.small_rep N, by simp⟩, ⟨Sk.small_rep N, by simp⟩⟩, V_s, HT0, V_a, S_s, V_b, S_s, HLw, HNw, HB⟩
    case round =>
      clear V_s S_s V_a V_b HT0 HLw HNw HB
      obtain ⟨j, A, c, Aa, ca, Ab, cb, wa, wb, rfl, hj, HXW, V_s, S_s, V_a, S_a, V_b, S_b, HLw, HNw, HB⟩ := hrel
      by_cases hlt : j < m
      · have hji : (j : Int) < (m : Int) := by omega
        have hjl : j < ns.length := by rw [HLN.out.2]; exact hlt
        obtain ⟨A', c', e1, _, _, _, hx⟩ := HNw.out
        injection e1 with e1 e2 e3
        subst e1 e3
        clear e2
        obtain ⟨b, o, rfl, hbb, hc⟩ := hx (by omega)
        have c0 := us_cell hc hjl
        have hgd : ns.getD j 0 = ns[j] := by simp [List.getD, hjl]
        have hnn := Sk.small_getD HSM.out.2 j
        have HTK := hid (togs_take l V ns (List.replicate N 0) hjl)
        rw [← hgd] at HTK
        generalize ns.getD j 0 = n at *
        have SW := hid (Sk.small_togs (l := l) (v := V) (small_take HSM.out.2 j) (Sk.small_rep N))
        generalize Sk.togs l V (ns.take j) (List.replicate N 0) = ws at *
        have HNN := hid hnn
        clear hx hc hgd hnn
        have ks0 := V_s.out.cell 0
        have ks1 := V_s.out.cell 1
        have ks2 := V_s.out.cell 2
        have ka0 := V_a.out.cell 0
        have ka1 := V_a.out.cell 1
        have ka2 := V_a.out.cell 2
        have kb0 := V_b.out.cell 0
        have kb1 := V_b.out.cell 1
        have kb2 := V_b.out.cell 2
        go_wp2_with fail
        refine (toggle_ok (N := N) HSOK.out S_s.out HLw.out HNN.out SW.out HSM.out.1).mono ?_; rintro e w1 ⟨vt, rfl, st, bt⟩
        clear ks0 ks1 ks2 ka0 ka1 ka2 kb0 kb1 kb2
        replace V_s := hid (V_s.out.on bt)
        replace S_s := hid (S_s.out.call bt)
        replace V_a := hid (V_a.out.on bt)
        replace S_a := hid (S_a.out.call bt)
        replace V_b := hid (V_b.out.on bt)
        replace S_b := hid (S_b.out.call bt)
        replace HLw := hid (HLw.out.call bt)
        replace HNw := hid (HNw.out.call bt)
        replace HB := hid (Bl.call HB.out bt)
        have S_t := hid st
        clear st bt
        obtain ⟨At, ct, hvt, _, _, _, _⟩ := S_t.out
        subst hvt
        clear c0
        obtain ⟨w2, hw⟩ : ∃ z, z = w1.alloc (.cells #[.int .i64 (R : Int), .int .i64 (V : Int), .slice At N ct] 26) := ⟨_, rfl⟩
        obtain ⟨Kt, hK⟩ : ∃ z, z = w1.heap.size := ⟨_, rfl⟩
        have b : Below w1.heap.size w1 w2 := by rw [hw]; exact bel_new _ _
        have V_t' : Hid (Blk w2 Kt 26 [.int .i64 (R : Int), .int .i64 (V : Int), .slice At N ct]) := hid (by rw [hw, hK]; exact Blk.new _ _ _)
        have S_t' := hid (S_t.out.call b)
        have LO_t : Hid (w.heap.size ≤ Kt) := hid (by rw [hK]; exact HB.out.size)
        have NEst : Hid (Ks ≠ Kt) := hid (by have := V_s.out.lt; omega)
        have NEts : Hid (Kt ≠ Ks) := hid (by have := V_s.out.lt; omega)
        have NEat : Hid (Ka ≠ Kt) := hid (by have := V_a.out.lt; omega)
        have NEta : Hid (Kt ≠ Ka) := hid (by have := V_a.out.lt; omega)
        have NEbt : Hid (Kb ≠ Kt) := hid (by have := V_b.out.lt; omega)
        have NEtb : Hid (Kt ≠ Kb) := hid (by have := V_b.out.lt; omega)
        replace V_s := hid (V_s.out.on b)
        replace S_s := hid (S_s.out.call b)
        replace V_a := hid (V_a.out.on b)
        replace S_a := hid (S_a.out.call b)
        replace V_b := hid (V_b.out.on b)
        replace S_b := hid (S_b.out.call b)
        replace HLw := hid (HLw.out.call b)
        replace HNw := hid (HNw.out.call b)
        replace HB := hid (Bl.call HB.out b)
        have V_t := V_t'
        have HW2 := hid hw
        have HK2 := hid hK
        clear b hw hK V_t' S_t
        have S_t := S_t'
        clear S_t'
        go_upto_region 12 with (fail)
        rw [← HW2.out, ← HK2.out]
        have kt0 := V_t.out.cell 0
        have kt1 := V_t.out.cell 1
        have kt2 := V_t.out.cell 2
        have ks0 := V_s.out.cell 0
        have ks1 := V_s.out.cell 1
        have ks2 := V_s.out.cell 2
        have fs0 := V_s.out.frozen 0
        have fs1 := V_s.out.frozen 1
        have fs2 := V_s.out.frozen 2
        obtain ⟨w3, hw⟩ : ∃ z, z = ((w2.setCell ⟨Ks, 0, none⟩ (.int .i64 (R : Int))).setCell ⟨Ks, 1, none⟩ (.int .i64 (V : Int))).setCell ⟨Ks, 2, none⟩ (.slice At N ct) := ⟨_, rfl⟩
        have S_s' := hid (S_t.out.skset V_s.out (.int .i64 (R : Int)) (.int .i64 (V : Int)) (.slice At N ct))
        rw [← hw] at S_s'
        replace V_a : Hid (Blk w3 Ka 26 [.int .i64 (R : Int), .int .i64 (V : Int), .slice Aa N ca]) := hid (by rw [hw]; exact ((V_a.out.far (p := ⟨Ks, 0, none⟩) NEas.out _).far (p := ⟨Ks, 1, none⟩) NEas.out _).far (p := ⟨Ks, 2, none⟩) NEas.out _)
        replace S_a := hid (S_a.out.skset V_s.out (.int .i64 (R : Int)) (.int .i64 (V : Int)) (.slice At N ct))
        rw [← hw] at S_a
        replace V_b : Hid (Blk w3 Kb 26 [.int .i64 (R : Int), .int .i64 (V : Int), .slice Ab N cb]) := hid (by rw [hw]; exact ((V_b.out.far (p := ⟨Ks, 0, none⟩) NEbs.out _).far (p := ⟨Ks, 1, none⟩) NEbs.out _).far (p := ⟨Ks, 2, none⟩) NEbs.out _)
        replace S_b := hid (S_b.out.skset V_s.out (.int .i64 (R : Int)) (.int .i64 (V : Int)) (.slice At N ct))
        rw [← hw] at S_b
        replace V_t : Hid (Blk w3 Kt 26 [.int .i64 (R : Int), .int .i64 (V : Int), .slice At N ct]) := hid (by rw [hw]; exact ((V_t.out.far (p := ⟨Ks, 0, none⟩) NEts.out _).far (p := ⟨Ks, 1, none⟩) NEts.out _).far (p := ⟨Ks, 2, none⟩) NEts.out _)
        replace S_t := hid (S_t.out.skset V_s.out (.int .i64 (R : Int)) (.int .i64 (V : Int)) (.slice At N ct))
        rw [← hw] at S_t
        replace HLw := hid (HLw.out.hkset V_s.out (.int .i64 (R : Int)) (.int .i64 (V : Int)) (.slice At N ct))
        rw [← hw] at HLw
        replace HNw := hid (HNw.out.skset V_s.out (.int .i64 (R : Int)) (.int .i64 (V : Int)) (.slice At N ct))
        rw [← hw] at HNw
        replace HB : Hid (Below w.heap.size w w3) := hid (by rw [hw]; exact ((HB.out.setCell (p := ⟨Ks, 0, none⟩) LO_s.out _).setCell (p := ⟨Ks, 1, none⟩) LO_s.out _).setCell (p := ⟨Ks, 2, none⟩) LO_s.out _)
        replace V_s : Hid (Blk w3 Ks 26 [.int .i64 (R : Int), .int .i64 (V : Int), .slice At N ct]) := hid (by rw [hw]; exact ((V_s.out.put 0 (.int .i64 (R : Int))).put 1 (.int .i64 (V : Int))).put 2 (.slice At N ct))
        have HW3 := hid hw
        clear hw
        replace S_s := S_s'
        clear S_s'
        go_upto_if 102 with (fail)
        rw [← HW3.out]
        clear kt0 kt1 kt2 ks0 ks1 ks2 fs0 fs1 fs2
        generalize (bits BinOp.and IntKind.u32 (mask / 2 ^ j) 1 == 1) = bm
        have HXW' := HXW.out
        obtain ⟨hx1, hx2, hx3⟩ := HXW'
        have HX := hid (And.intro hx1 (And.intro hx2 hx3))
        clear hx1 hx2 hx3 HXW
        cases bm with
          | false =>
            have kb0 := V_b.out.cell 0
            have kb1 := V_b.out.cell 1
            have kb2 := V_b.out.cell 2
            have fb0 := V_b.out.frozen 0
            have fb1 := V_b.out.frozen 1
            have fb2 := V_b.out.frozen 2
            go_wp2_with fail
            refine (toggle_ok (N := N) HSOK.out S_b.out HLw.out HNN.out HX.out.2.2.1 HSM.out.1).mono ?_; rintro e w4 ⟨vu, rfl, su, bu⟩
            clear kb0 kb1 kb2 fb0 fb1 fb2
            replace V_s := hid (V_s.out.on bu)
            replace S_s := hid (S_s.out.call bu)
            replace V_a := hid (V_a.out.on bu)
            replace S_a := hid (S_a.out.call bu)
            replace V_b := hid (V_b.out.on bu)
            replace S_b := hid (S_b.out.call bu)
            replace V_t := hid (V_t.out.on bu)
            replace S_t := hid (S_t.out.call bu)
            replace HLw := hid (HLw.out.call bu)
            replace HNw := hid (HNw.out.call bu)
            replace HB := hid (Bl.call HB.out bu)
            have S_u := hid su
            clear su bu
            obtain ⟨Au, cu, hvu, _, _, _, _⟩ := S_u.out
            subst hvu
            have kb0 := V_b.out.cell 0
            have kb1 := V_b.out.cell 1
            have kb2 := V_b.out.cell 2
            have fb0 := V_b.out.frozen 0
            have fb1 := V_b.out.frozen 1
            have fb2 := V_b.out.frozen 2
            obtain ⟨w5, hw⟩ : ∃ z, z = ((w4.setCell ⟨Kb, 0, none⟩ (.int .i64 (R : Int))).setCell ⟨Kb, 1, none⟩ (.int .i64 (V : Int))).setCell ⟨Kb, 2, none⟩ (.slice Au N cu) := ⟨_, rfl⟩
            have S_b' := hid (S_u.out.skset V_b.out (.int .i64 (R : Int)) (.int .i64 (V : Int)) (.slice Au N cu))
            rw [← hw] at S_b'
            replace V_s : Hid (Blk w5 Ks 26 [.int .i64 (R : Int), .int .i64 (V : Int), .slice At N ct]) := hid (by rw [hw]; exact ((V_s.out.far (p := ⟨Kb, 0, none⟩) NEsb.out _).far (p := ⟨Kb, 1, none⟩) NEsb.out _).far (p := ⟨Kb, 2, none⟩) NEsb.out _)
            replace S_s := hid (S_s.out.skset V_b.out (.int .i64 (R : Int)) (.int .i64 (V : Int)) (.slice Au N cu))
            rw [← hw] at S_s
            replace V_a : Hid (Blk w5 Ka 26 [.int .i64 (R : Int), .int .i64 (V : Int), .slice Aa N ca]) := hid (by rw [hw]; exact ((V_a.out.far (p := ⟨Kb, 0, none⟩) NEab.out _).far (p := ⟨Kb, 1, none⟩) NEab.out _).far (p := ⟨Kb, 2, none⟩) NEab.out _)
            replace S_a := hid (S_a.out.skset V_b.out (.int .i64 (R : Int)) (.int .i64 (V : Int)) (.slice Au N cu))
            rw [← hw] at S_a
            replace V_t : Hid (Blk w5 Kt 26 [.int .i64 (R : Int), .int .i64 (V : Int), .slice At N ct]) := hid (by rw [hw]; exact ((V_t.out.far (p := ⟨Kb, 0, none⟩) NEtb.out _).far (p := ⟨Kb, 1, none⟩) NEtb.out _).far (p := ⟨Kb, 2, none⟩) NEtb.out _)
            replace S_t := hid (S_t.out.skset V_b.out (.int .i64 (R : Int)) (.int .i64 (V : Int)) (.slice Au N cu))
            rw [← hw] at S_t
            replace HLw := hid (HLw.out.hkset V_b.out (.int .i64 (R : Int)) (.int .i64 (V : Int)) (.slice Au N cu))
            rw [← hw] at HLw
            replace HNw := hid (HNw.out.skset V_b.out (.int .i64 (R : Int)) (.int .i64 (V : Int)) (.slice Au N cu))
            rw [← hw] at HNw
            replace HB : Hid (Below w.heap.size w w5) := hid (by rw [hw]; exact ((HB.out.setCell (p := ⟨Kb, 0, none⟩) LO_b.out _).setCell (p := ⟨Kb, 1, none⟩) LO_b.out _).setCell (p := ⟨Kb, 2, none⟩) LO_b.out _)
            replace V_b : Hid (Blk w5 Kb 26 [.int .i64 (R : Int), .int .i64 (V : Int), .slice Au N cu]) := hid (by rw [hw]; exact ((V_b.out.put 0 (.int .i64 (R : Int))).put 1 (.int .i64 (V : Int))).put 2 (.slice Au N cu))
            have HW5 := hid hw
            clear hw
            clear S_u
            replace S_b := S_b'
            clear S_b'
            go_wp2
            rw [← HW5.out]
            clear kb0 kb1 kb2 fb0 fb1 fb2
            go_roundw
            case rel => exact ⟨j + 1, _, _, _, _, _, _, wa, Sk.tog l V n wb, by go_num, by omega, hid ⟨by rw [← Sk.tog_xors_r, HX.out.1, ← HTK.out], HX.out.2.1, tog_len_small HNN.out HX.out.2.2⟩, V_s, by rw [HTK.out]; exact S_s, V_a, S_a, V_b, S_b, HLw, HNw, HB⟩
            case measure => simp [intOf]; omega
          | true =>
            have ka0 := V_a.out.cell 0
            have ka1 := V_a.out.cell 1
            have ka2 := V_a.out.cell 2
            have fa0 := V_a.out.frozen 0
            have fa1 := V_a.out.frozen 1
            have fa2 := V_a.out.frozen 2
            go_wp2_with fail
            refine (toggle_ok (N := N) HSOK.out S_a.out HLw.out HNN.out HX.out.2.1.1 HSM.out.1).mono ?_; rintro e w4 ⟨vu, rfl, su, bu⟩
            clear ka0 ka1 ka2 fa0 fa1 fa2
            replace V_s := hid (V_s.out.on bu)
            replace S_s := hid (S_s.out.call bu)
            replace V_a := hid (V_a.out.on bu)
            replace S_a := hid (S_a.out.call bu)
            replace V_b := hid (V_b.out.on bu)
            replace S_b := hid (S_b.out.call bu)
            replace V_t := hid (V_t.out.on bu)
            replace S_t := hid (S_t.out.call bu)
            replace HLw := hid (HLw.out.call bu)
            replace HNw := hid (HNw.out.call bu)
            replace HB := hid (Bl.call HB.out bu)
            have S_u := hid su
            clear su bu
            obtain ⟨Au, cu, hvu, _, _, _, _⟩ := S_u.out
            subst hvu
            have ka0 := V_a.out.cell 0
            have ka1 := V_a.out.cell 1
            have ka2 := V_a.out.cell 2
            have fa0 := V_a.out.frozen 0
            have fa1 := V_a.out.frozen 1
            have fa2 := V_a.out.frozen 2
            obtain ⟨w5, hw⟩ : ∃ z, z = ((w4.setCell ⟨Ka, 0, none⟩ (.int .i64 (R : Int))).setCell ⟨Ka, 1, none⟩ (.int .i64 (V : Int))).setCell ⟨Ka, 2, none⟩ (.slice Au N cu) := ⟨_, rfl⟩
            have S_a' := hid (S_u.out.skset V_a.out (.int .i64 (R : Int)) (.int .i64 (V : Int)) (.slice Au N cu))
            rw [← hw] at S_a'
            replace V_s : Hid (Blk w5 Ks 26 [.int .i64 (R : Int), .int .i64 (V : Int), .slice At N ct]) := hid (by rw [hw]; exact ((V_s.out.far (p := ⟨Ka, 0, none⟩) NEsa.out _).far (p := ⟨Ka, 1, none⟩) NEsa.out _).far (p := ⟨Ka, 2, none⟩) NEsa.out _)
            replace S_s := hid (S_s.out.skset V_a.out (.int .i64 (R : Int)) (.int .i64 (V : Int)) (.slice Au N cu))
            rw [← hw] at S_s
            replace V_b : Hid (Blk w5 Kb 26 [.int .i64 (R : Int), .int .i64 (V : Int), .slice Ab N cb]) := hid (by rw [hw]; exact ((V_b.out.far (p := ⟨Ka, 0, none⟩) NEba.out _).far (p := ⟨Ka, 1, none⟩) NEba.out _).far (p := ⟨Ka, 2, none⟩) NEba.out _)
            replace S_b := hid (S_b.out.skset V_a.out (.int .i64 (R : Int)) (.int .i64 (V : Int)) (.slice Au N cu))
            rw [← hw] at S_b
            replace V_t : Hid (Blk w5 Kt 26 [.int .i64 (R : Int), .int .i64 (V : Int), .slice At N ct]) := hid (by rw [hw]; exact ((V_t.out.far (p := ⟨Ka, 0, none⟩) NEta.out _).far (p := ⟨Ka, 1, none⟩) NEta.out _).far (p := ⟨Ka, 2, none⟩) NEta.out _)
            replace S_t := hid (S_t.out.skset V_a.out (.int .i64 (R : Int)) (.int .i64 (V : Int)) (.slice Au N cu))
            rw [← hw] at S_t
            replace HLw := hid (HLw.out.hkset V_a.out (.int .i64 (R : Int)) (.int .i64 (V : Int)) (.slice Au N cu))
            rw [← hw] at HLw
            replace HNw := hid (HNw.out.skset V_a.out (.int .i64 (R : Int)) (.int .i64 (V : Int)) (.slice Au N cu))
            rw [← hw] at HNw
            replace HB : Hid (Below w.heap.size w w5) := hid (by rw [hw]; exact ((HB.out.setCell (p := ⟨Ka, 0, none⟩) LO_a.out _).setCell (p := ⟨Ka, 1, none⟩) LO_a.out _).setCell (p := ⟨Ka, 2, none⟩) LO_a.out _)
            replace V_a : Hid (Blk w5 Ka 26 [.int .i64 (R : Int), .int .i64 (V : Int), .slice Au N cu]) := hid (by rw [hw]; exact ((V_a.out.put 0 (.int .i64 (R : Int))).put 1 (.int .i64 (V : Int))).put 2 (.slice Au N cu))
            have HW5 := hid hw
            clear hw
            clear S_u
            replace S_a := S_a'
            clear S_a'
            go_wp2
            rw [← HW5.out]
            clear ka0 ka1 ka2 fa0 fa1 fa2
            go_roundw
            case rel => exact ⟨j + 1, _, _, _, _, _, _, Sk.tog l V n wa, wb, by go_num, by omega, hid ⟨by rw [← Sk.tog_xors_l, HX.out.1, ← HTK.out], tog_len_small HNN.out HX.out.2.1, HX.out.2.2⟩, V_s, by rw [HTK.out]; exact S_s, V_a, S_a, V_b, S_b, HLw, HNw, HB⟩
            case measure => simp [intOf]; omega
      · obtain rfl : j = m := by omega
        have hji : ¬ (j : Int) < (j : Int) := by omega
        have HTF : Hid (Sk.togs l V (ns.take j) (List.replicate N 0) = Sk.refWords l V ns) := hid (by rw [List.take_of_length_le (by rw [HLN.out.2]; exact Nat.le_refl _), ← Sk.togs_ref, HLN.out.1, HNE.out])
        have HXW' := HXW.out
        obtain ⟨hx1, hx2, hx3⟩ := HXW'
        have HX := hid (And.intro hx1 (And.intro hx2 hx3))
        rw [HTF.out] at S_s
        clear hx1 hx2 hx3 HXW
        have HRL : Hid ((Sk.refWords l V ns).length = N) := hid (by rw [HNE.out, ← HLN.out.1]; unfold Sk.refWords; simp)
        have ka0 := V_a.out.cell 0
        have ka1 := V_a.out.cell 1
        have ka2 := V_a.out.cell 2
        have kb0 := V_b.out.cell 0
        have kb1 := V_b.out.cell 1
        have kb2 := V_b.out.cell 2
        go_wp2_with fail
        refine (merge_ok (n := N) HSOK.out S_a.out S_b.out HX.out.2.1.1 HX.out.2.2.1).mono ?_; rintro e w1 ⟨vu, rfl, su, bu⟩
        clear ka0 ka1 ka2 kb0 kb1 kb2
        replace V_s := hid (V_s.out.on bu)
        replace S_s := hid (S_s.out.call bu)
        replace V_a := hid (V_a.out.on bu)
        replace S_a := hid (S_a.out.call bu)
        replace V_b := hid (V_b.out.on bu)
        replace S_b := hid (S_b.out.call bu)
        replace HLw := hid (HLw.out.call bu)
        replace HNw := hid (HNw.out.call bu)
        replace HB := hid (Bl.call HB.out bu)
        have S_u := hid su
        clear su bu
        obtain ⟨Au, cu, hvu, _, _, _, _⟩ := S_u.out
        subst hvu
        rw [HX.out.1, HTF.out] at S_u
        obtain ⟨w2, hw⟩ : ∃ z, z = w1.alloc (.cells #[.int .i64 (R : Int), .int .i64 (V : Int), .slice Au N cu] 26) := ⟨_, rfl⟩
        obtain ⟨Km, hK⟩ : ∃ z, z = w1.heap.size := ⟨_, rfl⟩
        have b : Below w1.heap.size w1 w2 := by rw [hw]; exact bel_new _ _
        have V_m' : Hid (Blk w2 Km 26 [.int .i64 (R : Int), .int .i64 (V : Int), .slice Au N cu]) := hid (by rw [hw, hK]; exact Blk.new _ _ _)
        have S_m' := hid (S_u.out.call b)
        have LO_m : Hid (w.heap.size ≤ Km) := hid (by rw [hK]; exact HB.out.size)
        have NEsm : Hid (Ks ≠ Km) := hid (by have := V_s.out.lt; omega)
        have NEms : Hid (Km ≠ Ks) := hid (by have := V_s.out.lt; omega)
        have NEam : Hid (Ka ≠ Km) := hid (by have := V_a.out.lt; omega)
        have NEma : Hid (Km ≠ Ka) := hid (by have := V_a.out.lt; omega)
        have NEbm : Hid (Kb ≠ Km) := hid (by have := V_b.out.lt; omega)
        have NEmb : Hid (Km ≠ Kb) := hid (by have := V_b.out.lt; omega)
        replace V_s := hid (V_s.out.on b)
        replace S_s := hid (S_s.out.call b)
        replace V_a := hid (V_a.out.on b)
        replace S_a := hid (S_a.out.call b)
        replace V_b := hid (V_b.out.on b)
        replace S_b := hid (S_b.out.call b)
        replace HLw := hid (HLw.out.call b)
        replace HNw := hid (HNw.out.call b)
        replace HB := hid (Bl.call HB.out b)
        have V_m := V_m'
        have HW2 := hid hw
        have HK2 := hid hK
        clear b hw hK V_m' S_u
        have S_m := S_m'
        clear S_m'
        go_upto_region 18 with (fail)
        rw [← HW2.out, ← HK2.out]
        go_wp2_with fail
        refine (words_any HLw.out HNw.out (by omega) (by omega) HSM.out.2 HSM.out.1).mono ?_; rintro e w3 ⟨v9, rfl, s9, b9⟩
        replace V_s := hid (V_s.out.on b9)
        replace S_s := hid (S_s.out.call b9)
        replace V_a := hid (V_a.out.on b9)
        replace S_a := hid (S_a.out.call b9)
        replace V_b := hid (V_b.out.on b9)
        replace S_b := hid (S_b.out.call b9)
        replace V_m := hid (V_m.out.on b9)
        replace S_m := hid (S_m.out.call b9)
        replace HLw := hid (HLw.out.call b9)
        replace HNw := hid (HNw.out.call b9)
        replace HB := hid (Bl.call HB.out b9)
        rw [HRL.out] at s9
        have S_9 := hid s9
        clear s9 b9
        have ks0 := V_s.out.cell 0
        have ks1 := V_s.out.cell 1
        have ks2 := V_s.out.cell 2
        have km0 := V_m.out.cell 0
        have km1 := V_m.out.cell 1
        have km2 := V_m.out.cell 2
        go_wp2_with fail
        refine (lsame_is S_s.out S_9.out).mono ?_; rintro e w4 ⟨rfl, b10⟩
        clear ks0 ks1 ks2 km0 km1 km2
        replace V_s := hid (V_s.out.on b10)
        replace S_s := hid (S_s.out.call b10)
        replace V_a := hid (V_a.out.on b10)
        replace S_a := hid (S_a.out.call b10)
        replace V_b := hid (V_b.out.on b10)
        replace S_b := hid (S_b.out.call b10)
        replace V_m := hid (V_m.out.on b10)
        replace S_m := hid (S_m.out.call b10)
        replace HLw := hid (HLw.out.call b10)
        replace HNw := hid (HNw.out.call b10)
        replace S_9 := hid (S_9.out.call b10)
        replace HB := hid (Bl.call HB.out b10)
        clear b10
        have km0 := V_m.out.cell 0
        have km1 := V_m.out.cell 1
        have km2 := V_m.out.cell 2
        go_wp2_with fail
        refine (lsame_is S_m.out S_9.out).mono ?_; rintro e w5 ⟨rfl, b11⟩
        clear km0 km1 km2
        replace V_s := hid (V_s.out.on b11)
        replace S_s := hid (S_s.out.call b11)
        replace V_a := hid (V_a.out.on b11)
        replace S_a := hid (S_a.out.call b11)
        replace V_b := hid (V_b.out.on b11)
        replace S_b := hid (S_b.out.call b11)
        replace V_m := hid (V_m.out.on b11)
        replace S_m := hid (S_m.out.call b11)
        replace HLw := hid (HLw.out.call b11)
        replace HNw := hid (HNw.out.call b11)
        replace S_9 := hid (S_9.out.call b11)
        replace HB := hid (Bl.call HB.out b11)
        clear b11
        go_wp2_with fail
        refine (skAwake_any _).mono ?_; rintro e w' ⟨rfl, hb⟩
        go_wp2
        go_ret
        exact ⟨rfl, Bl.call HB.out hb⟩
end Go.Proofs.Ytomgbhnalhddiaa
