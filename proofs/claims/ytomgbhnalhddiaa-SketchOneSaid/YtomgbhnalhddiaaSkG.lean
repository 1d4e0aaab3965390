/- The walk of SketchFirst. -/
import Derived.Test.YtomgbhnalhddiaaSkF
namespace Go.Proofs.Ytomgbhnalhddiaa
open Go.RowKit
set_option linter.unusedVariables false
set_option linter.unusedSimpArgs false
attribute [local go_sem ↓] Go.wp_at_zero Go.wp_at_succ

/-- A row of hashes lies in another block than a sketch. -/
theorem Sl.hkset {w : World} {n K m c : Nat} {T : TypeId} {r v' : Int} {A : Option Addr} {v : Value} {l : List (Nat × Nat)} (h : Sl w w.heap.size 2 v n (hcs l)) (hb : Blk w K T [.int .i64 r, .int .i64 v', .slice A m c]) (x y z : Value) :
    Sl (((w.setCell ⟨K, 0, none⟩ x).setCell ⟨K, 1, none⟩ y).setCell ⟨K, 2, none⟩ z) (((w.setCell ⟨K, 0, none⟩ x).setCell ⟨K, 1, none⟩ y).setCell ⟨K, 2, none⟩ z).heap.size 2 v n (hcs l) := by
  have hl : l.length = n := by have := h.len; rw [len_hcs] at this; omega
  obtain ⟨A, c, rfl, hnc, hcm, hll, hx⟩ := h
  refine ⟨A, c, rfl, hnc, hcm, hll, fun h0 => ?_⟩
  obtain ⟨b, o, rfl, hlt, hc⟩ := hx h0
  have h1 := (hcs_cell hc (k := 0) (by omega)).1
  have hne := us_apart h1 hb
  refine ⟨b, o, rfl, by simpa [World.setCell] using hlt, fun j u hu => ?_⟩
  rw [World.cell?_of_block (Below.heap_setCell _ ⟨K, 2, none⟩ z b hne), World.cell?_of_block (Below.heap_setCell _ ⟨K, 1, none⟩ y b hne), World.cell?_of_block (Below.heap_setCell _ ⟨K, 0, none⟩ x b hne)]
  exact hc j u hu
def xorsN (ns : List Nat) : Nat := ns.foldl (· ^^^ ·) 0
theorem xorsN_snoc (ns : List Nat) (n : Nat) : xorsN (ns ++ [n]) = xorsN ns ^^^ n := by unfold xorsN; rw [List.foldl_append]; rfl
theorem xorsN_small {ns : List Nat} (h : Sk.Small ns) : xorsN ns < 18446744073709551616 := by
  have key : ∀ (ns : List Nat) (x : Nat), Sk.Small ns → x < 18446744073709551616 → ns.foldl (· ^^^ ·) x < 18446744073709551616 := by
    intro ns
    induction ns with
    | nil => intro x _ hx; exact hx
    | cons n ns ih => intro x hs hx; exact ih _ (fun y hy => hs y (by simp [hy])) (Sk.xor_lt _ _ hx (hs n (by simp)))
  exact key ns 0 h (by omega)
theorem small_take {ns : List Nat} (h : Sk.Small ns) (j : Nat) : Sk.Small (ns.take j) := fun x hx => h x (List.mem_of_mem_take hx)
/-- The sizes of a sketch. -/
theorem szN {R V : Nat} (h : SzOk (R : Int) (V : Int)) : ((R * V : Nat) : Int) = (R : Int) * (V : Int) ∧ R * V ≤ 488 ∧ 0 < R * V ∧ SOk (R : Int) (V : Int) (R * V) := by
  have e : ((R * V : Nat) : Int) = (R : Int) * (V : Int) := by simp
  obtain ⟨h1, h2, h3, h4⟩ := h
  have h5 : R * V ≤ 8 * 61 := Nat.mul_le_mul (by omega) (by omega)
  have h6 : 0 < R * V := Nat.mul_pos (by omega) (by omega)
  exact ⟨e, h5, h6, ⟨⟨h1, h2, h3, h4⟩, e⟩⟩
theorem togs_take (l : List (Nat × Nat)) (V : Nat) (ns ws : List Nat) {j : Nat} (hj : j < ns.length) : Sk.togs l V (ns.take (j + 1)) ws = Sk.tog l V ns[j] (Sk.togs l V (ns.take j) ws) := by
  rw [List.take_succ_eq_append_getElem hj, Sk.togs_snoc]

set_option maxRecDepth 100000 in
set_option maxHeartbeats 8000000 in
theorem sketchFirst_walk (v1 : Value) (R : Nat) (l : List (Nat × Nat)) (V : Int) (v2 : Value) (m : Nat) (ns : List Nat) (w : World) (hl : Sl w w.heap.size 2 v1 R (hcs l)) (sh : ∀ h ∈ l, HSmall h) (hm : Sl w w.heap.size 1 v2 m (us ns)) (sn : Sk.Small ns) :
    Calls Try.prog 6 #[v1, .int .i64 V, v2] w (IsTrue w) := by
  have hll : l.length = R := by have := hl.len; rw [len_hcs] at this; omega
  have hnl : ns.length = m := by have := hm.len; rw [len_us] at this; omega
  have HLN := hid (And.intro hll hnl)
  have HSM := hid (And.intro sh sn)
  have HLw := hid hl
  have HNw := hid hm
  obtain ⟨A1, c1, rfl, _, _, _, _⟩ := hl
  obtain ⟨A2, c2, rfl, hnc2, hcm2, _, hx2⟩ := hm
  have HX2 := hid hx2
  have hmi : (m : Int) ≤ 9223372036854775807 := by unfold maxLen at hcm2; omega
  clear hx2 hll hnl sh sn hcm2
  by_cases hz : SzOk (R : Int) V
  case neg =>
    have HZ := hid hz
    clear hz
    go_enter Try.func6, Try.ntmps6
    go_wp2_with fail
    refine (snew_no HZ.out _).mono ?_; rintro e w1 ⟨rfl, b1⟩
    have HB1 := hid b1
    clear b1
    go_wp2_with fail
    refine (skAwake_any _).mono ?_; rintro e w' ⟨rfl, hb⟩
    go_wp2
    go_ret
    exact ⟨rfl, Bl.call (Bl.new HB1.out _) hb⟩
  obtain ⟨V, rfl⟩ := Int.eq_ofNat_of_zero_le (show 0 ≤ V by obtain ⟨_, _, h, _⟩ := hz; omega)
  have HZ := hid hz
  obtain ⟨hRV, hN1, hN2, hsok⟩ := szN hz
  obtain ⟨N, hN⟩ : ∃ N, N = R * V := ⟨_, rfl⟩
  rw [← hN] at hRV hN1 hN2 hsok
  have HSOK := hid hsok
  have HNE := hid hN
  have HRV := hid hRV
  clear hz hsok hN hRV
  have HB : Hid (Below w.heap.size w w) := hid (Below.refl _ _)
  by_cases hm30 : m ≤ 30
  case neg =>
    have hmi2 : ¬ (m : Int) ≤ 30 := by omega
    go_enter Try.func6, Try.ntmps6
    go_wp2_with fail
    refine (snew_ok HZ.out HRV.out.symm hN1 _).mono ?_; rintro e w1 ⟨v, rfl, hs, b1⟩
    have HB1 := hid b1
    obtain ⟨An, cn, rfl, _, _, _, _⟩ := hs
    clear b1
    go_wp2_with fail
    refine (skAwake_any _).mono ?_; rintro e w' ⟨rfl, hb⟩
    go_wp2
    go_ret
    exact ⟨rfl, Bl.call (Bl.new HB1.out _) hb⟩
  have hmi2 : (m : Int) ≤ 30 := by omega
  go_enter Try.func6, Try.ntmps6
  go_wp2_with fail
  refine (snew_ok HZ.out HRV.out.symm hN1 _).mono ?_; rintro e w1 ⟨vn, rfl, sn, bn⟩
  replace HLw := hid (HLw.out.call bn)
  replace HNw := hid (HNw.out.call bn)
  replace HB := hid (Bl.call HB.out bn)
  have S_n := hid sn
  clear sn bn
  obtain ⟨An, cn, hvn, _, _, _, _⟩ := S_n.out
  subst hvn
  obtain ⟨w2, hw⟩ : ∃ z, z = w1.alloc (.cells #[.int .i64 (R : Int), .int .i64 (V : Int), .slice An N cn] 26) := ⟨_, rfl⟩
  obtain ⟨Ks, hK⟩ : ∃ z, z = w1.heap.size := ⟨_, rfl⟩
  have b : Below w1.heap.size w1 w2 := by rw [hw]; exact bel_new _ _
  have V_s' : Hid (Blk w2 Ks 26 [.int .i64 (R : Int), .int .i64 (V : Int), .slice An N cn]) := hid (by rw [hw, hK]; exact Blk.new _ _ _)
  have S_s' := hid (S_n.out.call b)
  have LO_s : Hid (w.heap.size ≤ Ks) := hid (by rw [hK]; exact HB.out.size)
  replace HLw := hid (HLw.out.call b)
  replace HNw := hid (HNw.out.call b)
  replace HB := hid (Bl.call HB.out b)
  have V_s := V_s'
  have HW2 := hid hw
  have HK2 := hid hK
  clear b hw hK V_s' S_n
  have S_s := S_s'
  clear S_s'
  go_wp2_with fail
  rw [← HW2.out, ← HK2.out]
  have HT0 : Hid (Sl w2 w2.heap.size 1 (.slice An N cn) N (us (Sk.togs l V (ns.take 0) (List.replicate N 0)))) := hid S_s.out
  go_loopw [9, 30] (fun av iv wr => ∃ (j : Nat) (A : Option Addr) (c : Nat), iv = .int .i64 (j : Int) ∧ j ≤ m ∧ av = .int .u64 (xorsN (ns.take j) : Nat) ∧ Hid (Blk wr Ks 26 [.int .i64 (R : Int), .int .i64 (V : Int), .slice A N c]) ∧ Hid (Sl wr wr.heap.size 1 (.slice A N c) N (us (Sk.togs l V (ns.take j) (List.replicate N 0)))) ∧ Hid (Sl wr wr.heap.size 2 (.slice A1 R c1) R (hcs l)) ∧ Hid (Sl wr wr.heap.size 1 (.slice A2 m c2) m (us ns)) ∧ Hid (Below w.heap.size w wr)) (fun _ iv _ => m - (intOf iv).toNat)
  case atStart => exact ⟨0, _, _, rfl, Nat.zero_le _, rfl, V_s, HT0, HLw, HNw, HB⟩
  case round =>
    clear V_s S_s HT0 HLw HNw HB
    obtain ⟨j, A, c, rfl, hj, rfl, V_s, S_s, HLw, HNw, HB⟩ := hrel
    by_cases hlt : j < m
    · have hji : (j : Int) < (m : Int) := by omega
      have hjl : j < ns.length := by rw [HLN.out.2]; exact hlt
      obtain ⟨A', c', e1, _, _, _, hx⟩ := HNw.out
      injection e1 with e1 e2 e3
      subst e1 e3
      clear e2
      obtain ⟨b, o, rfl, hbb, hc⟩ := hx (by omega)
      have c0 := us_cell hc hjl
      have hgd : ns.getD j 0 = ns[j] := by simp [List.getD, hjl]
      have hnn := Sk.small_getD HSM.out.2 j
      have HTK := hid (togs_take l V ns (List.replicate N 0) hjl)
      have hxs : xorsN (ns.take (j + 1)) = xorsN (ns.take j) ^^^ ns[j] := by rw [List.take_succ_eq_append_getElem hjl, xorsN_snoc]
      have hxl := xorsN_small (small_take HSM.out.2 j)
      rw [← hgd] at HTK hxs
      have HXS := hid hxs
      generalize ns.getD j 0 = n at *
      generalize xorsN (ns.take j) = xa at *
      have hxn := bits_xor_u64_nat xa n hxl hnn
      have SW := hid (Sk.small_togs (l := l) (v := V) (small_take HSM.out.2 j) (Sk.small_rep N))
      generalize Sk.togs l V (ns.take j) (List.replicate N 0) = ws at *
      have HNN := hid hnn
      clear hx hc hgd hxs hnn
      have ks0 := V_s.out.cell 0
      have ks1 := V_s.out.cell 1
      have ks2 := V_s.out.cell 2
      go_wp2_with fail
      refine (toggle_ok (N := N) HSOK.out S_s.out HLw.out HNN.out SW.out HSM.out.1).mono ?_; rintro e w1 ⟨vt, rfl, st, bt⟩
      clear ks0 ks1 ks2
      replace V_s := hid (V_s.out.on bt)
      replace S_s := hid (S_s.out.call bt)
      replace HLw := hid (HLw.out.call bt)
      replace HNw := hid (HNw.out.call bt)
      replace HB := hid (Bl.call HB.out bt)
      have S_t := hid st
      clear st bt
      obtain ⟨At, ct, hvt, _, _, _, _⟩ := S_t.out
      subst hvt
      clear c0
      have ks0 := V_s.out.cell 0
      have ks1 := V_s.out.cell 1
      have ks2 := V_s.out.cell 2
      have fs0 := V_s.out.frozen 0
      have fs1 := V_s.out.frozen 1
      have fs2 := V_s.out.frozen 2
      obtain ⟨w2, hw⟩ : ∃ z, z = ((w1.setCell ⟨Ks, 0, none⟩ (.int .i64 (R : Int))).setCell ⟨Ks, 1, none⟩ (.int .i64 (V : Int))).setCell ⟨Ks, 2, none⟩ (.slice At N ct) := ⟨_, rfl⟩
      have S_s' := hid (S_t.out.skset V_s.out (.int .i64 (R : Int)) (.int .i64 (V : Int)) (.slice At N ct))
      rw [← hw] at S_s'
      replace HLw := hid (HLw.out.hkset V_s.out (.int .i64 (R : Int)) (.int .i64 (V : Int)) (.slice At N ct))
      rw [← hw] at HLw
      replace HNw := hid (HNw.out.skset V_s.out (.int .i64 (R : Int)) (.int .i64 (V : Int)) (.slice At N ct))
      rw [← hw] at HNw
      replace HB : Hid (Below w.heap.size w w2) := hid (by rw [hw]; exact ((HB.out.setCell (p := ⟨Ks, 0, none⟩) LO_s.out _).setCell (p := ⟨Ks, 1, none⟩) LO_s.out _).setCell (p := ⟨Ks, 2, none⟩) LO_s.out _)
      replace V_s : Hid (Blk w2 Ks 26 [.int .i64 (R : Int), .int .i64 (V : Int), .slice At N ct]) := hid (by rw [hw]; exact ((V_s.out.put 0 (.int .i64 (R : Int))).put 1 (.int .i64 (V : Int))).put 2 (.slice At N ct))
      have HW2 := hid hw
      clear hw
      clear S_t
      replace S_s := S_s'
      clear S_s'
      go_wp2
      rw [← HW2.out]
      clear ks0 ks1 ks2 fs0 fs1 fs2
      go_roundw
      case rel => exact ⟨j + 1, _, _, by go_num, by omega, by rw [HXS.out], V_s, by rw [HTK.out]; exact S_s, HLw, HNw, HB⟩
      case measure => simp [intOf]; omega
    · obtain rfl : j = m := by omega
      have hji : ¬ (j : Int) < (j : Int) := by omega
      rw [List.take_of_length_le (by rw [HLN.out.2]; exact Nat.le_refl _)] at S_s ⊢
      obtain ⟨xa, hxa⟩ : ∃ xa, xa = xorsN ns := ⟨_, rfl⟩
      have HXA := hid hxa
      rw [← hxa]
      clear hxa
      have k0 := V_s.out.cell 0
      have k1 := V_s.out.cell 1
      have k2 := V_s.out.cell 2
      have hrv := HRV.out.symm
      have hNN : ((N : Int) != (N : Int)) = false := by simp
      have hNi : (N : Int) ≤ 488 := by omega
      obtain ⟨W, hW⟩ : ∃ W : World, W = wr := ⟨_, rfl⟩
      have HZi := HZ.out
      obtain ⟨z1, z2, z3, z4⟩ := HZi
      go_wp2
      clear hrv hNN
      go_loopw [55] (fun iv wr' => ∃ r : Nat, iv = .int .i64 (r : Int) ∧ r ≤ R ∧ wr' = wr) (fun iv _ => R - (intOf iv).toNat)
      case atStart => exact ⟨0, rfl, Nat.zero_le _, rfl⟩
      case round =>
        obtain ⟨r, rfl, hr, rfl⟩ := hrel
        by_cases hrlt : r < R
        · have hri : (r : Int) < (R : Int) := by omega
          obtain ⟨A', c', e1, _, _, _, hx⟩ := S_s.out
          injection e1 with e1 e2 e3
          subst e1 e3
          clear e2
          obtain ⟨b, o, rfl, hbb, hc⟩ := hx (by omega)
          have hrV : r * V < N := by
            rw [HNE.out]
            exact Nat.mul_lt_mul_of_pos_right hrlt (by omega)
          have hlen : (Sk.togs l V ns (List.replicate N 0)).length = N := by rw [Sk.len_togs]; simp
          have hat : (Sk.togs l V ns (List.replicate N 0))[r * V]? = some xa := by
            rw [Sk.togs_at, List.getElem?_replicate, if_pos hrV]
            have e1 : (r * V) % V = 0 := Nat.mul_mod_left r V
            rw [e1]
            simp only [Option.map_some]
            rw [Sk.word_first, HXA.out]
            rfl
          have c0 : wr.cell? ⟨b, o + r * V, none⟩ = some (.int .u64 (xa : Int)) := hc (r * V) _ (by simp [us, hat])
          obtain ⟨rv, hrv⟩ : ∃ rv, rv = r * V := ⟨_, rfl⟩
          have hrvi : (r : Int) * (V : Int) = (rv : Int) := by rw [hrv]; simp
          rw [← hrv] at c0 hrV
          have hrvN : (rv : Int) < (N : Int) := by omega
          have t0 : ((xa : Int) != (xa : Int)) = false := by simp
          clear hx hc hat hlen hrv
          go_wp2
          go_roundw
          case rel => exact ⟨r + 1, by go_num, by omega, by first | rfl | trivial⟩
          case measure => simp [intOf]; omega
        · obtain rfl : r = R := by omega
          have hri : ¬ (r : Int) < (r : Int) := by omega
          go_wp2_with fail
          refine (skAwake_any _).mono ?_; rintro e w' ⟨rfl, hb⟩
          go_wp2
          go_ret
          exact ⟨rfl, Bl.call HB.out hb⟩
end Go.Proofs.Ytomgbhnalhddiaa
