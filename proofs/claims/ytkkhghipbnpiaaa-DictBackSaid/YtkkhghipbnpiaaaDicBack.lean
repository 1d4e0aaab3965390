/- The walk of the law DictBack. -/
import Derived.Test.YtkkhghipbnpiaaaDicH
namespace Go.Proofs.Ytkkhghipbnpiaaa
open Go.RowKit Sq
set_option linter.unusedVariables false
attribute [local go_sem ↓] Go.wp_at_zero Go.wp_at_succ

set_option maxRecDepth 100000 in
set_option maxHeartbeats 8000000 in
theorem dictBack_walk (v : Value) (nn : Nat) (cs : List (Bool × Int × Int)) (key n m : Int) (w : World) (hs : Sl w w.heap.size 3 v nn (acs cs)) :
    Calls Try.prog 4 #[v, .int .u64 key, .int .i64 n, .int .i64 m] w (IsTrue w) := by
  have hn : cs.length = nn := by have := hs.len; rw [len_acs] at this; omega
  obtain ⟨A, c, rfl, hnc, hcm, hll, hx⟩ := hs
  have HS : Hid (Sl w w.heap.size 3 (.slice A nn c) nn (acs cs)) := hid ⟨A, c, rfl, hnc, hcm, hll, hx⟩
  have HN := hid hn
  clear hn hx hll
  by_cases g1 : (60 : Int) < nn
  · go_enter Try.func4, Try.ntmps4
    go_wp2_with fail
    refine (dAwake_any _).mono ?_; rintro e w' ⟨rfl, hb⟩
    go_wp2
    go_ret
    exact ⟨rfl, hb⟩
  have HB : Hid (Below w.heap.size w w) := hid (Below.refl _ _)
  have I_z : Hid (IsD w none []) := hid (IsD.none_ _)
  go_enter Try.func4, Try.ntmps4
  obtain ⟨w1, hw⟩ : ∃ w1, w1 = w.alloc (.cells #[.pointer none] 27) := ⟨_, rfl⟩
  obtain ⟨Kd, hK⟩ : ∃ Kd, Kd = w.heap.size := ⟨_, rfl⟩
  have b : Below w.heap.size w w1 := by rw [hw]; exact bel_new _ _
  have D_d' : Hid (Blk w1 Kd 27 [.pointer none]) := hid (by rw [hw, hK]; exact Blk.new w _ [.pointer none])
  have I_d' := hid (I_z.out.call b)
  have LO_d : Hid (w.heap.size ≤ Kd) := hid (by rw [hK]; exact HB.out.size)
  replace HB := hid (Bl.call HB.out b)
  have D_d := D_d'
  have I_d := I_d'
  have HW1 := hid hw
  have HK1 := hid hK
  clear b hw hK D_d' I_d' I_z
  go_wp2_with fail
  rw [← HK1.out, ← HW1.out]
  go_loopw [11, 25] (fun x i wr => ∃ (j : Nat) (pt : Option Addr), i = .int .i64 (j : Int) ∧ j ≤ nn ∧ Hid (Blk wr Kd 27 [.pointer pt]) ∧ Hid (IsD wr pt (acts (cs.take j))) ∧ Hid (Below w.heap.size w wr)) (fun x i _ => nn - (intOf i).toNat)
  case atStart => exact ⟨0, none, rfl, Nat.zero_le _, D_d, I_d, HB⟩
  case round =>
    clear D_d I_d HB
    obtain ⟨j, pt, rfl, hj, D_d, I_d, HB⟩ := hrel
    by_cases hlt : j < nn
    · have hi0 : (j : Int) < (nn : Int) := by omega
      obtain ⟨bk, o, rfl, q0, q1, q2⟩ := sl_cells HS.out HB.out hlt HN.out
      have HAC := hid (acts_snoc cs j (by rw [HN.out]; exact hlt))
      have hlen : (acts (cs.take j)).length ≤ 100000 := by have := len_acts (cs.take j); rw [List.length_take] at this; omega
      have hjl : j < cs.length := by rw [HN.out]; exact hlt
      obtain ⟨a, ha⟩ : ∃ a, a = cs[j] := ⟨_, rfl⟩
      rw [← ha] at q0 q1 q2 HAC
      clear ha hjl
      obtain ⟨fl, k, m⟩ := a
      obtain ⟨L, hL⟩ : ∃ L, L = acts (cs.take j) := ⟨_, rfl⟩
      rw [← hL] at I_d hlen HAC
      clear hL
      cases fl with
      | true =>
        dsimp only at q0 q1 q2
        obtain ⟨w1, hw⟩ : ∃ w1, w1 = wr.alloc (.cells #[.bool true, .int .u64 k, .int .i64 m] 30) := ⟨_, rfl⟩
        have b : Below wr.heap.size wr w1 := by rw [hw]; exact bel_new _ _
        replace D_d := hid (D_d.out.below b D_d.out.lt)
        replace I_d := hid (I_d.out.call b)
        replace HB := hid (Bl.call HB.out b)
        have HW1 := hid hw
        clear b hw
        have c_d : (wr.alloc (.cells #[.bool true, .int .u64 k, .int .i64 m] 30)).cell? ⟨Kd, 0, none⟩ = some (.pointer pt) := by rw [← HW1.out]; exact D_d.out.cell 0
        have f_d : (wr.alloc (.cells #[.bool true, .int .u64 k, .int .i64 m] 30)).frozen? ⟨Kd, 0, none⟩ = false := by rw [← HW1.out]; exact D_d.out.frozen 0
        go_wp2_with fail
        rw [← HW1.out]
        clear c_d f_d
        refine (delete_is (k := k) I_d.out hlen (Dc.del L k) _ rfl rfl).mono ?_; rintro e w2 ⟨v1, rfl, i, b⟩
        replace D_d := hid (D_d.out.below b D_d.out.lt)
        replace I_d := hid (I_d.out.call b)
        replace HB := hid (Bl.call HB.out b)
        clear b
        have I_1 := hid i
        clear i q0 q1 q2
        have p_c : w2.cell? ⟨Kd, 0, none⟩ = some (.pointer pt) := D_d.out.cell 0
        have p_f : w2.frozen? ⟨Kd, 0, none⟩ = false := D_d.out.frozen 0
        obtain ⟨w3, hw⟩ : ∃ w3, w3 = w2.setCell ⟨Kd, 0, none⟩ (.pointer v1) := ⟨_, rfl⟩
        replace I_d : Hid (IsD w3 v1 (Dc.del L k)) := hid (by rw [hw]; exact I_1.out.other D_d.out (.pointer v1))
        replace HB : Hid (Below w.heap.size w w3) := hid (by rw [hw]; exact HB.out.setCell (p := ⟨Kd, 0, none⟩) LO_d.out (.pointer v1))
        replace D_d : Hid (Blk w3 Kd 27 [.pointer v1]) := hid (by rw [hw]; exact D_d.out.put 0 _)
        have HW3 := hid hw
        clear hw I_1
        go_wp2_with fail
        rw [← HW3.out]
        clear p_c p_f
        go_roundw
        case rel => exact ⟨j + 1, v1, by go_num, by omega, D_d, by rw [HAC.out]; exact I_d, HB⟩
        case measure => simp [intOf]; omega
      | false =>
        dsimp only at q0 q1 q2
        obtain ⟨w1, hw⟩ : ∃ w1, w1 = wr.alloc (.cells #[.bool false, .int .u64 k, .int .i64 m] 30) := ⟨_, rfl⟩
        have b : Below wr.heap.size wr w1 := by rw [hw]; exact bel_new _ _
        replace D_d := hid (D_d.out.below b D_d.out.lt)
        replace I_d := hid (I_d.out.call b)
        replace HB := hid (Bl.call HB.out b)
        have HW1 := hid hw
        clear b hw
        have c_d : (wr.alloc (.cells #[.bool false, .int .u64 k, .int .i64 m] 30)).cell? ⟨Kd, 0, none⟩ = some (.pointer pt) := by rw [← HW1.out]; exact D_d.out.cell 0
        have f_d : (wr.alloc (.cells #[.bool false, .int .u64 k, .int .i64 m] 30)).frozen? ⟨Kd, 0, none⟩ = false := by rw [← HW1.out]; exact D_d.out.frozen 0
        go_wp2_with fail
        rw [← HW1.out]
        clear c_d f_d
        refine (put_is (k := k) (n := m) I_d.out hlen (Dc.put L k m) rfl).mono ?_; rintro e w2 ⟨v1, rfl, i, b⟩
        replace D_d := hid (D_d.out.below b D_d.out.lt)
        replace I_d := hid (I_d.out.call b)
        replace HB := hid (Bl.call HB.out b)
        clear b
        have I_1 := hid i
        clear i q0 q1 q2
        have p_c : w2.cell? ⟨Kd, 0, none⟩ = some (.pointer pt) := D_d.out.cell 0
        have p_f : w2.frozen? ⟨Kd, 0, none⟩ = false := D_d.out.frozen 0
        obtain ⟨w3, hw⟩ : ∃ w3, w3 = w2.setCell ⟨Kd, 0, none⟩ (.pointer v1) := ⟨_, rfl⟩
        replace I_d : Hid (IsD w3 v1 (Dc.put L k m)) := hid (by rw [hw]; exact I_1.out.other D_d.out (.pointer v1))
        replace HB : Hid (Below w.heap.size w w3) := hid (by rw [hw]; exact HB.out.setCell (p := ⟨Kd, 0, none⟩) LO_d.out (.pointer v1))
        replace D_d : Hid (Blk w3 Kd 27 [.pointer v1]) := hid (by rw [hw]; exact D_d.out.put 0 _)
        have HW3 := hid hw
        clear hw I_1
        go_wp2_with fail
        rw [← HW3.out]
        clear p_c p_f
        go_roundw
        case rel => exact ⟨j + 1, v1, by go_num, by omega, D_d, by rw [HAC.out]; exact I_d, HB⟩
        case measure => simp [intOf]; omega
    · have hjn : j = nn := by omega
      subst hjn
      have hi0 : ¬ (j : Int) < (j : Int) := by omega
      have hL : acts (cs.take j) = acts cs := by rw [List.take_of_length_le (by rw [HN.out]; exact Nat.le_refl _)]
      rw [hL] at I_d
      have hlen : (acts cs).length ≤ 60 := by have := len_acts cs; rw [HN.out] at this; omega
      have hsr := srt_acts cs
      obtain ⟨L, hL2⟩ : ∃ L, L = acts cs := ⟨_, rfl⟩
      rw [← hL2] at I_d hlen hsr
      have LO_d : Hid (w.heap.size ≤ Kd) := hid (by rw [HK1.out]; exact Nat.le_refl _)
      clear hL hL2 hi0
      have hsp := Dc.srt_put hsr key n
      have g3 := Dc.get_put_same hsp key m
      have hdel : Dc.del (Dc.put (Dc.put L key n) key m) key = Dc.del L key := by rw [Dc.put_put hsr, Dc.del_put hsr]
      have hl1 := Dc.len_put_le hsr key n
      have hl2 := Dc.len_put_le hsp key m
      have hl3 := Dc.len_del_le L key
      have G3 := hid g3
      have HDEL := hid hdel
      have LL : Hid (L.length ≤ 100000 ∧ (Dc.put L key n).length ≤ 100000 ∧ (Dc.put (Dc.put L key n) key m).length ≤ 100000 ∧ (Dc.del L key).length ≤ 100000) := hid ⟨by omega, by omega, by omega, by omega⟩
      clear g3 hl1 hl2 hl3 hdel hsp hlen
      have c_d : wr.cell? ⟨Kd, 0, none⟩ = some (.pointer pt) := D_d.out.cell 0
      have f_d : wr.frozen? ⟨Kd, 0, none⟩ = false := D_d.out.frozen 0
      go_wp2_with fail
      clear c_d f_d
      refine (put_is (k := key) (n := n) I_d.out LL.out.1 (Dc.put L key n) rfl).mono ?_; rintro e w1 ⟨v1, rfl, i, bb⟩
      replace D_d := hid (D_d.out.below bb D_d.out.lt)
      replace I_d := hid (I_d.out.call bb)
      replace HB := hid (Bl.call HB.out bb)
      clear bb
      have I_1 := hid i
      clear i
      have c_d : w1.cell? ⟨Kd, 0, none⟩ = some (.pointer pt) := D_d.out.cell 0
      have f_d : w1.frozen? ⟨Kd, 0, none⟩ = false := D_d.out.frozen 0
      go_wp2_with fail
      clear c_d f_d
      refine (put_is (k := key) (n := m) I_1.out LL.out.2.1 (Dc.put (Dc.put L key n) key m) rfl).mono ?_; rintro e w2 ⟨v2, rfl, i, bb⟩
      replace D_d := hid (D_d.out.below bb D_d.out.lt)
      replace I_d := hid (I_d.out.call bb)
      replace HB := hid (Bl.call HB.out bb)
      have I_2 := hid i
      clear bb i I_1
      obtain ⟨w3, hw⟩ : ∃ w3, w3 = w2.alloc (.cells #[.pointer v2] 27) := ⟨_, rfl⟩
      obtain ⟨Kp, hK⟩ : ∃ Kp, Kp = w2.heap.size := ⟨_, rfl⟩
      have b : Below w2.heap.size w2 w3 := by rw [hw]; exact bel_new _ _
      have D_p' : Hid (Blk w3 Kp 27 [.pointer v2]) := hid (by rw [hw, hK]; exact Blk.new w2 _ [.pointer v2])
      have I_p' := hid (I_2.out.call b)
      have LO_p : Hid (w.heap.size ≤ Kp) := hid (by rw [hK]; exact HB.out.size)
      have NEdp : Hid (Kd ≠ Kp) := hid (by have := D_d.out.lt; omega)
      have NEpd : Hid (Kp ≠ Kd) := hid (by have := D_d.out.lt; omega)
      replace D_d := hid (D_d.out.below b D_d.out.lt)
      replace I_d := hid (I_d.out.call b)
      replace HB := hid (Bl.call HB.out b)
      have D_p := D_p'
      have I_p := I_p'
      have HW3 := hid hw
      have HK3 := hid hK
      clear b hw hK D_p' I_p' I_2
      have c_d : (w2.alloc (.cells #[.pointer v2] 27)).cell? ⟨Kd, 0, none⟩ = some (.pointer pt) := by rw [← HW3.out]; exact D_d.out.cell 0
      have f_d : (w2.alloc (.cells #[.pointer v2] 27)).frozen? ⟨Kd, 0, none⟩ = false := by rw [← HW3.out]; exact D_d.out.frozen 0
      have c_p : (w2.alloc (.cells #[.pointer v2] 27)).cell? ⟨Kp, 0, none⟩ = some (.pointer v2) := by rw [← HW3.out]; exact D_p.out.cell 0
      have f_p : (w2.alloc (.cells #[.pointer v2] 27)).frozen? ⟨Kp, 0, none⟩ = false := by rw [← HW3.out]; exact D_p.out.frozen 0
      go_wp2_with fail
      rw [← HK3.out, ← HW3.out]
      clear c_d f_d c_p f_p
      refine (get_is (k := key) I_p.out LL.out.2.2.1 m true (by rw [G3.out]; rfl) (by rw [G3.out]; rfl)).mono ?_; rintro e w4 ⟨rfl, bb⟩
      replace D_d := hid (D_d.out.below bb D_d.out.lt)
      replace I_d := hid (I_d.out.call bb)
      replace D_p := hid (D_p.out.below bb D_p.out.lt)
      replace I_p := hid (I_p.out.call bb)
      replace HB := hid (Bl.call HB.out bb)
      clear bb
      have c_d : w4.cell? ⟨Kd, 0, none⟩ = some (.pointer pt) := D_d.out.cell 0
      have f_d : w4.frozen? ⟨Kd, 0, none⟩ = false := D_d.out.frozen 0
      have c_p : w4.cell? ⟨Kp, 0, none⟩ = some (.pointer v2) := D_p.out.cell 0
      have f_p : w4.frozen? ⟨Kp, 0, none⟩ = false := D_p.out.frozen 0
      go_wp2_with fail
      clear c_d f_d c_p f_p
      refine (delete_is (k := key) I_p.out LL.out.2.2.1 (Dc.del L key) true HDEL.out (by rw [G3.out]; rfl)).mono ?_; rintro e w5 ⟨v3, rfl, i, bb⟩
      replace D_d := hid (D_d.out.below bb D_d.out.lt)
      replace I_d := hid (I_d.out.call bb)
      replace D_p := hid (D_p.out.below bb D_p.out.lt)
      replace I_p := hid (I_p.out.call bb)
      replace HB := hid (Bl.call HB.out bb)
      clear bb
      have I_3 := hid i
      clear i
      obtain ⟨w6, hw⟩ : ∃ w6, w6 = w5.alloc (.cells #[.pointer v3] 27) := ⟨_, rfl⟩
      obtain ⟨Kq, hK⟩ : ∃ Kq, Kq = w5.heap.size := ⟨_, rfl⟩
      have b : Below w5.heap.size w5 w6 := by rw [hw]; exact bel_new _ _
      have D_q' : Hid (Blk w6 Kq 27 [.pointer v3]) := hid (by rw [hw, hK]; exact Blk.new w5 _ [.pointer v3])
      have I_q' := hid (I_3.out.call b)
      have LO_q : Hid (w.heap.size ≤ Kq) := hid (by rw [hK]; exact HB.out.size)
      have NEdq : Hid (Kd ≠ Kq) := hid (by have := D_d.out.lt; omega)
      have NEqd : Hid (Kq ≠ Kd) := hid (by have := D_d.out.lt; omega)
      have NEpq : Hid (Kp ≠ Kq) := hid (by have := D_p.out.lt; omega)
      have NEqp : Hid (Kq ≠ Kp) := hid (by have := D_p.out.lt; omega)
      replace D_d := hid (D_d.out.below b D_d.out.lt)
      replace I_d := hid (I_d.out.call b)
      replace D_p := hid (D_p.out.below b D_p.out.lt)
      replace I_p := hid (I_p.out.call b)
      replace HB := hid (Bl.call HB.out b)
      have D_q := D_q'
      have I_q := I_q'
      have HW6 := hid hw
      have HK6 := hid hK
      clear b hw hK D_q' I_q' I_3
      cases hg : Dc.get L key with
      | none =>
        have HG := hid hg
        have hdn := Dc.del_none hg
        rw [← hdn] at I_d
        clear hg hdn
        have c_d : (w5.alloc (.cells #[.pointer v3] 27)).cell? ⟨Kd, 0, none⟩ = some (.pointer pt) := by rw [← HW6.out]; exact D_d.out.cell 0
        have f_d : (w5.alloc (.cells #[.pointer v3] 27)).frozen? ⟨Kd, 0, none⟩ = false := by rw [← HW6.out]; exact D_d.out.frozen 0
        have c_p : (w5.alloc (.cells #[.pointer v3] 27)).cell? ⟨Kp, 0, none⟩ = some (.pointer v2) := by rw [← HW6.out]; exact D_p.out.cell 0
        have f_p : (w5.alloc (.cells #[.pointer v3] 27)).frozen? ⟨Kp, 0, none⟩ = false := by rw [← HW6.out]; exact D_p.out.frozen 0
        have c_q : (w5.alloc (.cells #[.pointer v3] 27)).cell? ⟨Kq, 0, none⟩ = some (.pointer v3) := by rw [← HW6.out]; exact D_q.out.cell 0
        have f_q : (w5.alloc (.cells #[.pointer v3] 27)).frozen? ⟨Kq, 0, none⟩ = false := by rw [← HW6.out]; exact D_q.out.frozen 0
        go_wp2_with fail
        rw [← HK6.out, ← HW6.out]
        clear c_d f_d c_p f_p c_q f_q
        refine (get_is (k := key) I_d.out LL.out.2.2.2 0 false (by rw [Dc.get_del_same]; rfl) (by rw [Dc.get_del_same]; rfl)).mono ?_; rintro e w7 ⟨rfl, bb⟩
        replace D_d := hid (D_d.out.below bb D_d.out.lt)
        replace I_d := hid (I_d.out.call bb)
        replace D_p := hid (D_p.out.below bb D_p.out.lt)
        replace I_p := hid (I_p.out.call bb)
        replace D_q := hid (D_q.out.below bb D_q.out.lt)
        replace I_q := hid (I_q.out.call bb)
        replace HB := hid (Bl.call HB.out bb)
        clear bb
        have c_d : w7.cell? ⟨Kd, 0, none⟩ = some (.pointer pt) := D_d.out.cell 0
        have f_d : w7.frozen? ⟨Kd, 0, none⟩ = false := D_d.out.frozen 0
        have c_p : w7.cell? ⟨Kp, 0, none⟩ = some (.pointer v2) := D_p.out.cell 0
        have f_p : w7.frozen? ⟨Kp, 0, none⟩ = false := D_p.out.frozen 0
        have c_q : w7.cell? ⟨Kq, 0, none⟩ = some (.pointer v3) := D_q.out.cell 0
        have f_q : w7.frozen? ⟨Kq, 0, none⟩ = false := D_q.out.frozen 0
        go_wp2_with fail
        clear c_d f_d c_p f_p c_q f_q
        have c_d : w7.cell? ⟨Kd, 0, none⟩ = some (.pointer pt) := D_d.out.cell 0
        have f_d : w7.frozen? ⟨Kd, 0, none⟩ = false := D_d.out.frozen 0
        have c_p : w7.cell? ⟨Kp, 0, none⟩ = some (.pointer v2) := D_p.out.cell 0
        have f_p : w7.frozen? ⟨Kp, 0, none⟩ = false := D_p.out.frozen 0
        have c_q : w7.cell? ⟨Kq, 0, none⟩ = some (.pointer v3) := D_q.out.cell 0
        have f_q : w7.frozen? ⟨Kq, 0, none⟩ = false := D_q.out.frozen 0
        go_region_held3 (fun w' => w'.cell? ⟨Kq, 0, none⟩ = some (.pointer v3) ∧ w'.cell? ⟨Kd, 0, none⟩ = some (.pointer pt))
          (first | go_keep | (go_split_ands; and_intros <;> (first | (refine cell_later (by assumption) ?_; first | assumption | (rw [Qt.cell (qt_of _ _)]; assumption) | (rw [Qt.cell (qt_drew _)]; assumption)) | (refine cell_later (bel_new _ _) ?_; assumption) | (rw [Qt.cell (by assumption)]; first | assumption | (rw [Qt.cell (qt_of _ _)]; assumption) | (rw [Qt.cell (qt_drew _)]; assumption)))))
          (first | (go_at_call 16; (with_reducible refine (pairs_is (pt := v3) (by repeat (first | exact I_q.out | refine IsD.new ?_ _ | refine IsD.cqt ?_ (qt_drew _) | refine IsD.cqt ?_ (qt_of _ _) | refine IsD.call ?_ (by assumption) | refine IsD.cqt ?_ (by assumption))) LL.out.2.2.2 (Dc.del L key) _ rfl rfl).mono ?_); rintro e x1 ⟨u1, rfl, s1, b1⟩)
                 | (go_at_call 16; (with_reducible refine (pairs_is (pt := pt) (by repeat (first | exact I_d.out | refine IsD.new ?_ _ | refine IsD.cqt ?_ (qt_drew _) | refine IsD.cqt ?_ (qt_of _ _) | refine IsD.call ?_ (by assumption) | refine IsD.cqt ?_ (by assumption))) LL.out.2.2.2 (Dc.del L key) _ rfl rfl).mono ?_); rintro e x3 ⟨u3, rfl, s3, b3⟩)
                 | (go_at_call 15; (with_reducible refine (refs_any (v := u3) (by repeat (first | exact s3 | refine Sl.new ?_ _ | refine Sl.cqt ?_ (qt_drew _) | refine Sl.cqt ?_ (qt_of _ _) | refine Sl.call ?_ (by assumption) | refine Sl.cqt ?_ (by assumption))) LL.out.2.2.2).mono ?_); rintro e x4 ⟨u4, rfl, s4, b4⟩)
                 | (go_at_call 15; (with_reducible refine (refs_any (v := u1) (by repeat (first | exact s1 | refine Sl.new ?_ _ | refine Sl.cqt ?_ (qt_drew _) | refine Sl.cqt ?_ (qt_of _ _) | refine Sl.call ?_ (by assumption) | refine Sl.cqt ?_ (by assumption))) LL.out.2.2.2).mono ?_); rintro e x2 ⟨u2, rfl, s2, b2⟩)
                 | (go_at_call 8; (with_reducible refine (dAwake_any _).mono ?_); rintro e x6 ⟨rfl, b6⟩)
                 | (go_at_call 14; (with_reducible refine (rsame_at (v := u2) (v' := u4) (p := Dc.del L key) (by repeat (first | exact s2 | refine Sl.new ?_ _ | refine Sl.cqt ?_ (qt_drew _) | refine Sl.cqt ?_ (qt_of _ _) | refine Sl.call ?_ (by assumption) | refine Sl.cqt ?_ (by assumption))) (by repeat (first | exact s4 | refine Sl.new ?_ _ | refine Sl.cqt ?_ (qt_drew _) | refine Sl.cqt ?_ (qt_of _ _) | refine Sl.call ?_ (by assumption) | refine Sl.cqt ?_ (by assumption)))).mono ?_); rintro e x5 ⟨rfl, q5⟩))
        all_goals
          go_wp2
          go_ret
          exact ⟨rfl, (by repeat (first | exact HB.out | refine Bl.new ?_ _ | refine Bl.call ?_ (by assumption) | refine Bl.qt ?_ (by assumption) | refine Bl.qt ?_ (qt_drew _) | refine Bl.qt ?_ (qt_of _ _)))⟩
      | some t =>
        have HG := hid hg
        clear hg
        have c_d : (w5.alloc (.cells #[.pointer v3] 27)).cell? ⟨Kd, 0, none⟩ = some (.pointer pt) := by rw [← HW6.out]; exact D_d.out.cell 0
        have f_d : (w5.alloc (.cells #[.pointer v3] 27)).frozen? ⟨Kd, 0, none⟩ = false := by rw [← HW6.out]; exact D_d.out.frozen 0
        have c_p : (w5.alloc (.cells #[.pointer v3] 27)).cell? ⟨Kp, 0, none⟩ = some (.pointer v2) := by rw [← HW6.out]; exact D_p.out.cell 0
        have f_p : (w5.alloc (.cells #[.pointer v3] 27)).frozen? ⟨Kp, 0, none⟩ = false := by rw [← HW6.out]; exact D_p.out.frozen 0
        have c_q : (w5.alloc (.cells #[.pointer v3] 27)).cell? ⟨Kq, 0, none⟩ = some (.pointer v3) := by rw [← HW6.out]; exact D_q.out.cell 0
        have f_q : (w5.alloc (.cells #[.pointer v3] 27)).frozen? ⟨Kq, 0, none⟩ = false := by rw [← HW6.out]; exact D_q.out.frozen 0
        go_wp2_with fail
        rw [← HK6.out, ← HW6.out]
        clear c_d f_d c_p f_p c_q f_q
        refine (get_is (k := key) I_d.out LL.out.1 t true (by rw [HG.out]; rfl) (by rw [HG.out]; rfl)).mono ?_; rintro e w7 ⟨rfl, bb⟩
        replace D_d := hid (D_d.out.below bb D_d.out.lt)
        replace I_d := hid (I_d.out.call bb)
        replace D_p := hid (D_p.out.below bb D_p.out.lt)
        replace I_p := hid (I_p.out.call bb)
        replace D_q := hid (D_q.out.below bb D_q.out.lt)
        replace I_q := hid (I_q.out.call bb)
        replace HB := hid (Bl.call HB.out bb)
        clear bb
        have c_d : w7.cell? ⟨Kd, 0, none⟩ = some (.pointer pt) := D_d.out.cell 0
        have f_d : w7.frozen? ⟨Kd, 0, none⟩ = false := D_d.out.frozen 0
        have c_p : w7.cell? ⟨Kp, 0, none⟩ = some (.pointer v2) := D_p.out.cell 0
        have f_p : w7.frozen? ⟨Kp, 0, none⟩ = false := D_p.out.frozen 0
        have c_q : w7.cell? ⟨Kq, 0, none⟩ = some (.pointer v3) := D_q.out.cell 0
        have f_q : w7.frozen? ⟨Kq, 0, none⟩ = false := D_q.out.frozen 0
        go_wp2_with fail
        clear c_d f_d c_p f_p c_q f_q
        refine (delete_is (k := key) I_d.out LL.out.1 (Dc.del L key) true rfl (by rw [HG.out]; rfl)).mono ?_; rintro e w8 ⟨v4, rfl, i, bb⟩
        replace D_d := hid (D_d.out.below bb D_d.out.lt)
        replace I_d := hid (I_d.out.call bb)
        replace D_p := hid (D_p.out.below bb D_p.out.lt)
        replace I_p := hid (I_p.out.call bb)
        replace D_q := hid (D_q.out.below bb D_q.out.lt)
        replace I_q := hid (I_q.out.call bb)
        replace HB := hid (Bl.call HB.out bb)
        clear bb
        have I_4 := hid i
        clear i
        have p_c : w8.cell? ⟨Kd, 0, none⟩ = some (.pointer pt) := D_d.out.cell 0
        have p_f : w8.frozen? ⟨Kd, 0, none⟩ = false := D_d.out.frozen 0
        obtain ⟨w9, hw⟩ : ∃ w9, w9 = w8.setCell ⟨Kd, 0, none⟩ (.pointer v4) := ⟨_, rfl⟩
        replace D_p : Hid (Blk w9 Kp 27 [.pointer v2]) := hid (by rw [hw]; exact D_p.out.far NEpd.out _)
        replace I_p : Hid (IsD w9 v2 (Dc.put (Dc.put L key n) key m)) := hid (by rw [hw]; exact I_p.out.other D_d.out (.pointer v4))
        replace D_q : Hid (Blk w9 Kq 27 [.pointer v3]) := hid (by rw [hw]; exact D_q.out.far NEqd.out _)
        replace I_q : Hid (IsD w9 v3 (Dc.del L key)) := hid (by rw [hw]; exact I_q.out.other D_d.out (.pointer v4))
        replace I_d : Hid (IsD w9 v4 (Dc.del L key)) := hid (by rw [hw]; exact I_4.out.other D_d.out (.pointer v4))
        replace HB : Hid (Below w.heap.size w w9) := hid (by rw [hw]; exact HB.out.setCell (p := ⟨Kd, 0, none⟩) LO_d.out (.pointer v4))
        replace D_d : Hid (Blk w9 Kd 27 [.pointer v4]) := hid (by rw [hw]; exact D_d.out.put 0 _)
        have HW9 := hid hw
        clear hw I_4
        have c_d : (w8.setCell ⟨Kd, 0, none⟩ (.pointer v4)).cell? ⟨Kd, 0, none⟩ = some (.pointer v4) := by rw [← HW9.out]; exact D_d.out.cell 0
        have f_d : (w8.setCell ⟨Kd, 0, none⟩ (.pointer v4)).frozen? ⟨Kd, 0, none⟩ = false := by rw [← HW9.out]; exact D_d.out.frozen 0
        have c_p : (w8.setCell ⟨Kd, 0, none⟩ (.pointer v4)).cell? ⟨Kp, 0, none⟩ = some (.pointer v2) := by rw [← HW9.out]; exact D_p.out.cell 0
        have f_p : (w8.setCell ⟨Kd, 0, none⟩ (.pointer v4)).frozen? ⟨Kp, 0, none⟩ = false := by rw [← HW9.out]; exact D_p.out.frozen 0
        have c_q : (w8.setCell ⟨Kd, 0, none⟩ (.pointer v4)).cell? ⟨Kq, 0, none⟩ = some (.pointer v3) := by rw [← HW9.out]; exact D_q.out.cell 0
        have f_q : (w8.setCell ⟨Kd, 0, none⟩ (.pointer v4)).frozen? ⟨Kq, 0, none⟩ = false := by rw [← HW9.out]; exact D_q.out.frozen 0
        go_wp2_with fail
        rw [← HW9.out]
        clear c_d f_d c_p f_p c_q f_q p_c p_f
        have c_d : w9.cell? ⟨Kd, 0, none⟩ = some (.pointer v4) := D_d.out.cell 0
        have f_d : w9.frozen? ⟨Kd, 0, none⟩ = false := D_d.out.frozen 0
        have c_p : w9.cell? ⟨Kp, 0, none⟩ = some (.pointer v2) := D_p.out.cell 0
        have f_p : w9.frozen? ⟨Kp, 0, none⟩ = false := D_p.out.frozen 0
        have c_q : w9.cell? ⟨Kq, 0, none⟩ = some (.pointer v3) := D_q.out.cell 0
        have f_q : w9.frozen? ⟨Kq, 0, none⟩ = false := D_q.out.frozen 0
        go_region_held3 (fun w' => w'.cell? ⟨Kq, 0, none⟩ = some (.pointer v3) ∧ w'.cell? ⟨Kd, 0, none⟩ = some (.pointer v4))
          (first | go_keep | (go_split_ands; and_intros <;> (first | (refine cell_later (by assumption) ?_; first | assumption | (rw [Qt.cell (qt_of _ _)]; assumption) | (rw [Qt.cell (qt_drew _)]; assumption)) | (refine cell_later (bel_new _ _) ?_; assumption) | (rw [Qt.cell (by assumption)]; first | assumption | (rw [Qt.cell (qt_of _ _)]; assumption) | (rw [Qt.cell (qt_drew _)]; assumption)))))
          (first | (go_at_call 16; (with_reducible refine (pairs_is (pt := v3) (by repeat (first | exact I_q.out | refine IsD.new ?_ _ | refine IsD.cqt ?_ (qt_drew _) | refine IsD.cqt ?_ (qt_of _ _) | refine IsD.call ?_ (by assumption) | refine IsD.cqt ?_ (by assumption))) LL.out.2.2.2 (Dc.del L key) _ rfl rfl).mono ?_); rintro e x1 ⟨u1, rfl, s1, b1⟩)
                 | (go_at_call 16; (with_reducible refine (pairs_is (pt := v4) (by repeat (first | exact I_d.out | refine IsD.new ?_ _ | refine IsD.cqt ?_ (qt_drew _) | refine IsD.cqt ?_ (qt_of _ _) | refine IsD.call ?_ (by assumption) | refine IsD.cqt ?_ (by assumption))) LL.out.2.2.2 (Dc.del L key) _ rfl rfl).mono ?_); rintro e x3 ⟨u3, rfl, s3, b3⟩)
                 | (go_at_call 15; (with_reducible refine (refs_any (v := u3) (by repeat (first | exact s3 | refine Sl.new ?_ _ | refine Sl.cqt ?_ (qt_drew _) | refine Sl.cqt ?_ (qt_of _ _) | refine Sl.call ?_ (by assumption) | refine Sl.cqt ?_ (by assumption))) LL.out.2.2.2).mono ?_); rintro e x4 ⟨u4, rfl, s4, b4⟩)
                 | (go_at_call 15; (with_reducible refine (refs_any (v := u1) (by repeat (first | exact s1 | refine Sl.new ?_ _ | refine Sl.cqt ?_ (qt_drew _) | refine Sl.cqt ?_ (qt_of _ _) | refine Sl.call ?_ (by assumption) | refine Sl.cqt ?_ (by assumption))) LL.out.2.2.2).mono ?_); rintro e x2 ⟨u2, rfl, s2, b2⟩)
                 | (go_at_call 8; (with_reducible refine (dAwake_any _).mono ?_); rintro e x6 ⟨rfl, b6⟩)
                 | (go_at_call 14; (with_reducible refine (rsame_at (v := u2) (v' := u4) (p := Dc.del L key) (by repeat (first | exact s2 | refine Sl.new ?_ _ | refine Sl.cqt ?_ (qt_drew _) | refine Sl.cqt ?_ (qt_of _ _) | refine Sl.call ?_ (by assumption) | refine Sl.cqt ?_ (by assumption))) (by repeat (first | exact s4 | refine Sl.new ?_ _ | refine Sl.cqt ?_ (qt_drew _) | refine Sl.cqt ?_ (qt_of _ _) | refine Sl.call ?_ (by assumption) | refine Sl.cqt ?_ (by assumption)))).mono ?_); rintro e x5 ⟨rfl, q5⟩))
        all_goals
          go_wp2
          go_ret
          exact ⟨rfl, (by repeat (first | exact HB.out | refine Bl.new ?_ _ | refine Bl.call ?_ (by assumption) | refine Bl.qt ?_ (by assumption) | refine Bl.qt ?_ (qt_drew _) | refine Bl.qt ?_ (qt_of _ _)))⟩
end Go.Proofs.Ytkkhghipbnpiaaa
