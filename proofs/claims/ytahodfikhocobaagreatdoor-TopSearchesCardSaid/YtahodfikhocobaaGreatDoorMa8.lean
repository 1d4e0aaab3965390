/- The texts TpN, TpO, TpP, TpQ, TopG, TpL, merged. No theorem here is a claim by itself. -/
import Derived.Test.YtahodfikhocobaaGreatDoorMa7
import Derived.Deep.RegionHeld3
import Derived.Deep.Cut
import Derived.Deep.DeepCutAuto
import Derived.Test.YtahodfikhocobaaGreatDoorMa4
namespace Go.Proofs.YtahodfikhocobaaGreatDoor
open Go.RowKit
set_option linter.unusedVariables false
set_option linter.unusedSimpArgs false
attribute [local go_sem ↓] Go.wp_at_zero Go.wp_at_succ
theorem rin_is {n v : Int} (b : Bool) (hb : (0 ≤ v ∧ v < n) ↔ b = true) (w : World) : Calls Tryz.prog 32 #[.int .i64 n, .int .i64 v] w fun e w' => e = .returned (.bool b) ∧ w = w' := by
  have HF : Hid (∀ p : Prop, (0 ≤ v ∧ v < n → p) → ¬ p → b = false) := hid (fun p h hn => not_true hb (fun q => hn (h q)))
  have HT := hid hb
  clear hb
  by_cases c1 : 0 ≤ v
  case neg =>
    have HR := hid (HF.out (0 ≤ v) (fun h => h.1) c1)
    go_enter Tryz.func32, Tryz.ntmps32
    go_wp2
    go_ret
    exact ⟨by rw [HR.out]; first | rfl | exact ret_bool (by simp; omega), rfl⟩
  case pos =>
  by_cases c2 : v < n
  case neg =>
    have HR := hid (HF.out (v < n) (fun h => h.2) c2)
    go_enter Tryz.func32, Tryz.ntmps32
    go_wp2
    go_ret
    exact ⟨by rw [HR.out]; first | rfl | exact ret_bool (by simp; omega), rfl⟩
  case pos =>
  have HR : Hid (b = true) := hid (HT.out.1 ⟨c1, c2⟩)
  go_enter Tryz.func32, Tryz.ntmps32
  go_wp2
  go_ret
  exact ⟨by rw [HR.out]; first | rfl | exact ret_bool (by simp; omega), rfl⟩
def InB (n v : Int) : Prop := 0 ≤ v ∧ v < n
theorem rin_yes {n v : Int} (h : InB n v) (w : World) : Calls Tryz.prog 32 #[.int .i64 n, .int .i64 v] w fun e w' => e = .returned (.bool true) ∧ w = w' := rin_is true ⟨fun _ => rfl, fun _ => h⟩ w
theorem rin_no {n v : Int} (h : ¬ InB n v) (w : World) : Calls Tryz.prog 32 #[.int .i64 n, .int .i64 v] w fun e w' => e = .returned (.bool false) ∧ w = w' := rin_is false ⟨fun q => absurd q h, fun q => by cases q⟩ w
def RfPost (m : Nat) (w : World) (e : Ending) (w' : World) : Prop := ∃ z : Int, e = .returned (.int .i64 z) ∧ (z = -1 ∨ (0 ≤ z ∧ z < (m : Int))) ∧ w = w'
set_option maxRecDepth 100000 in
set_option maxHeartbeats 8000000 in
theorem rfindE_any {v0 : Value} {m : Nat} {l : List (Int × Int × Int)} {u v : Int} {w : World} (hs : Sl w w.heap.size 3 v0 m (eds l)) :
    Calls Tryz.prog 33 #[v0, .int .i64 u, .int .i64 v] w (RfPost m w) := by
  have hl : l.length = m := by have := hs.len; rw [len_eds] at this; omega
  obtain ⟨A, c, rfl, hnc, hcm, hll, hx⟩ := hs
  have hm : m ≤ 9223372036854775807 := by unfold maxLen at hcm; omega
  have HX := hid hx
  have HL := hid hl
  clear hx hll hl hcm hnc
  go_enter Tryz.func33, Tryz.ntmps33
  go_wp2_with fail
  go_loopw [7] (fun iv wr => ∃ i : Nat, i ≤ m ∧ iv = .int .i64 (i : Int) ∧ w = wr) (fun iv _ => m - (intOf iv).toNat)
  case atStart => exact ⟨0, Nat.zero_le _, rfl, by trivial⟩
  case round =>
    obtain ⟨i, hi, rfl, rfl⟩ := hrel
    by_cases hlt : i < m
    · have j0 : (i : Int) < (m : Int) := by omega
      have hil : i < l.length := by rw [HL.out]; exact hlt
      obtain ⟨b6, o6, rfl, hb6, hc6⟩ := HX.out (by omega)
      obtain ⟨q0, q1, q2⟩ := eds_cell hc6 hil
      generalize l[i] = e at q0 q1 q2
      obtain ⟨x, y, t⟩ := e
      dsimp only at q0 q1 q2
      clear hc6 hil
      cases hb : Tp.fiB u v (x, y) with
      | true =>
        have hc := fiB_yes hb
        clear hb
        rcases hc with ⟨e1, e2⟩ | ⟨e1, e2, e3, e4⟩ | ⟨e1, e3, e4⟩
        all_goals
          go_wp2
          go_ret
          exact ⟨_, rfl, .inr ⟨by omega, by omega⟩, rfl⟩
      | false =>
        have hc := fiB_no hb
        clear hb
        rcases hc with ⟨e1, e2, e3, e4⟩ | ⟨e1, e2, e3⟩ | ⟨e1, e3, e4⟩ | ⟨e1, e3⟩
        all_goals
          go_wp2_with fail
          go_roundw
          case rel => exact ⟨i + 1, by omega, by go_num, by trivial⟩
          case measure => simp [intOf]; omega
    · have j0 : ¬ (i : Int) < (m : Int) := by omega
      obtain rfl : i = m := by omega
      go_wp2
      go_ret
      exact ⟨_, rfl, .inl rfl, rfl⟩
/-- Some list of edges, and an error. -/
def SomePost (k : Nat) (v0 : Value) (w : World) (e : Ending) (w' : World) : Prop := ∃ (v : Value) (err : Int) (q : Nat) (l : List (Int × Int × Int)), e = .returned (.tuple #[v, .int .i64 err]) ∧ q ≤ k ∧ Sl w' w'.heap.size 3 v q (eds l) ∧ (∀ K, K < w.heap.size → Off K v0 → Off K v) ∧ Below w.heap.size w w'
set_option maxRecDepth 100000 in
set_option maxHeartbeats 8000000 in
theorem rremoveE_any {n : Int} {v0 : Value} {m : Nat} {l : List (Int × Int × Int)} {u v : Int} {w : World} (hs : Sl w w.heap.size 3 v0 m (eds l)) (hm : m ≤ 1000) :
    Calls Tryz.prog 15 #[.int .i64 n, v0, .int .i64 u, .int .i64 v] w (SomePost m v0 w) := by
  obtain ⟨A, c, rfl, hnc, hcm, hll, hx⟩ := hs
  have HS : Hid (Sl w w.heap.size 3 (.slice A m c) m (eds l)) := hid ⟨A, c, rfl, hnc, hcm, hll, hx⟩
  clear hcm hll hx
  have m63 : (m : Int) ≤ 1000 := by omega
  by_cases ht : TabR n l
  case neg =>
    have HT := hid ht
    clear ht
    go_enter Tryz.func15, Tryz.ntmps15
    go_wp2_with fail
    refine (rtright_is HS.out false ⟨fun q => absurd q HT.out, fun q => by cases q⟩).mono ?_; rintro e w2 ⟨rfl, b2⟩
    have HB2 := hid b2
    have HS2 := hid (HS.out.call b2)
    clear b2
    go_wp2
    go_ret2
    exact ⟨_, _, m, l, rfl, by omega, HS2.out, fun _ _ h => h, HB2.out⟩
  case pos =>
  have HT := hid ht
  clear ht
  by_cases hu : InB n u
  case neg =>
    have HU := hid hu
    clear hu
    go_enter Tryz.func15, Tryz.ntmps15
    go_wp2_with fail
    refine (rtright_is HS.out true ⟨fun _ => rfl, fun _ => HT.out⟩).mono ?_; rintro e w2 ⟨rfl, b2⟩
    have HB2 := hid b2
    have HS2 := hid (HS.out.call b2)
    clear b2
    go_wp2_with fail
    refine (rin_no HU.out _).mono ?_; rintro e w' ⟨rfl, rfl⟩
    go_wp2
    go_ret2
    exact ⟨_, _, m, l, rfl, by omega, HS2.out, fun _ _ h => h, HB2.out⟩
  case pos =>
  have HU := hid hu
  by_cases hv : InB n v
  case neg =>
    have HV := hid hv
    clear hu hv
    go_enter Tryz.func15, Tryz.ntmps15
    go_wp2_with fail
    refine (rtright_is HS.out true ⟨fun _ => rfl, fun _ => HT.out⟩).mono ?_; rintro e w2 ⟨rfl, b2⟩
    have HB2 := hid b2
    have HS2 := hid (HS.out.call b2)
    clear b2
    go_wp2_with fail
    refine (rin_yes HU.out _).mono ?_; rintro e w' ⟨rfl, rfl⟩
    go_wp2_with fail
    refine (rin_no HV.out _).mono ?_; rintro e w' ⟨rfl, rfl⟩
    go_wp2
    go_ret2
    exact ⟨_, _, m, l, rfl, by omega, HS2.out, fun _ _ h => h, HB2.out⟩
  case pos =>
  have HV := hid hv
  clear hu hv
  go_enter Tryz.func15, Tryz.ntmps15
  go_wp2_with fail
  refine (rtright_is HS.out true ⟨fun _ => rfl, fun _ => HT.out⟩).mono ?_; rintro e w2 ⟨rfl, b2⟩
  have HB2 := hid b2
  have HS2 := hid (HS.out.call b2)
  clear b2
  go_wp2_with fail
  refine (rin_yes HU.out _).mono ?_; rintro e w' ⟨rfl, rfl⟩
  go_wp2_with fail
  refine (rin_yes HV.out _).mono ?_; rintro e w' ⟨rfl, rfl⟩
  go_wp2_with fail
  refine (rfindE_any (u := u) (v := v) HS2.out).mono ?_; rintro e w' ⟨z, rfl, hz, rfl⟩
  rcases hz with rfl | ⟨z0, z1⟩
  · go_wp2
    go_ret2
    exact ⟨_, _, m, l, rfl, Nat.le_refl _, HS2.out, fun _ _ h => h, HB2.out⟩
  · obtain ⟨i, rfl⟩ := Int.eq_ofNat_of_zero_le z0
    have hi : i < m := by omega
    have z2 : ¬ (i : Int) < 0 := by omega
    have z3 : (i : Int) ≤ (c : Int) := by omega
    have z4 : (i : Int) + 1 ≤ (m : Int) := by omega
    have hsl1 := run_take_of Tedg A m c i (by omega)
    have hsl2 : ∀ w : World, (Instr.slice 26 (.slice A m c) (some (.int .i64 ((i : Int) + 1))) none none).run Tryz.prog w = .ok (.slice (cutA A c (i + 1) 3) (m - (i + 1)) (c - (i + 1))) w := run_drop_of Tedg A m c (i + 1) (by omega)
    have U1 : Hid (Sl w2 w2.heap.size 3 (.slice (cutA A c 0 3) i c) i (eds (l.take i))) := hid (by rw [← eds_take]; exact HS2.out.take (by omega))
    have U2 : Hid (Sl w2 w2.heap.size 3 (.slice (cutA A c (i + 1) 3) (m - (i + 1)) (c - (i + 1))) (m - (i + 1)) (eds (l.drop (i + 1)))) := hid (by rw [← eds_drop]; exact HS2.out.drop (by omega))
    generalize cutA A c 0 3 = P1 at *
    generalize cutA A c (i + 1) 3 = P2 at *
    have hb1 : (0 + i) * 24 ≤ 140737488355328 := by omega
    have hb2 : (i + (m - (i + 1))) * 24 ≤ 140737488355328 := by omega
    go_wp2_with (at_builtin; (refine wl_app rfl _ _ Tedg rfl (base := w2.heap.size) rfl (World.ownsRow_nil _ _ _ _) rfl U1.out (eds_one _) hb1 (Nat.le_refl _) ?_))
    intro v4 w4 o4 b4
    have O4 : Hid (w4.ownsRow w2.heap.size 35 3 v4 i (eds (l.take i))) := hid (by simpa using o4)
    have B4 := hid b4
    have U24 := hid (U2.out.below b4 (Nat.le_refl _))
    have Z4 := hid b4.size
    clear o4 b4
    go_wp2_with (at_builtin; (refine wl_app rfl _ _ Tedg rfl rfl O4.out rfl U24.out (eds_one _) hb2 Z4.out ?_))
    intro v5 w5 o5 b5
    have S5 := hid (Sl.of_own o5)
    have F5 : Hid (∀ K, K < w.heap.size → Off K v5) := hid (fun K hK => own_isOff o5 (Nat.lt_of_lt_of_le hK HB2.out.size))
    have B5 := hid b5
    clear o5 b5
    go_wp2
    go_ret2
    exact ⟨_, _, i + (m - (i + 1)), l.take i ++ l.drop (i + 1), rfl, by omega, by have := S5.out; rw [eds_app] at this; exact this, fun K hK _ => F5.out K hK, HB2.out.trans ((B4.out.trans B5.out).mono HB2.out.size)⟩
set_option maxRecDepth 100000 in
set_option maxHeartbeats 32000000 in
theorem raddE_any {n : Int} {v0 : Value} {m : Nat} {l : List (Int × Int × Int)} {u v : Int} {w : World} (hs : Sl w w.heap.size 3 v0 m (eds l)) (hm : m ≤ 1000) :
    Calls Tryz.prog 17 #[.int .i64 n, v0, .int .i64 u, .int .i64 v] w (SomePost (m + 1) v0 w) := by
  have hl : l.length = m := by have := hs.len; rw [len_eds] at this; omega
  obtain ⟨A, c, rfl, hnc, hcm, hll, hx⟩ := hs
  have HS : Hid (Sl w w.heap.size 3 (.slice A m c) m (eds l)) := hid ⟨A, c, rfl, hnc, hcm, hll, hx⟩
  have HX := hid hx
  have HL := hid hl
  clear hcm hll hx hl
  have m63 : (m : Int) ≤ 1000 := by omega
  by_cases ht : TabR n l
  case neg =>
    have HT := hid ht
    clear ht
    go_enter Tryz.func17, Tryz.ntmps17
    go_wp2_with fail
    refine (rtright_is HS.out false ⟨fun q => absurd q HT.out, fun q => by cases q⟩).mono ?_; rintro e w2 ⟨rfl, b2⟩
    have HB2 := hid b2
    have HS2 := hid (HS.out.call b2)
    clear b2
    go_wp2
    go_ret2
    exact ⟨_, _, m, l, rfl, by omega, HS2.out, fun _ _ h => h, HB2.out⟩
  case pos =>
  have HT := hid ht
  clear ht
  by_cases hu : InB n u
  case neg =>
    have HU := hid hu
    clear hu
    go_enter Tryz.func17, Tryz.ntmps17
    go_wp2_with fail
    refine (rtright_is HS.out true ⟨fun _ => rfl, fun _ => HT.out⟩).mono ?_; rintro e w2 ⟨rfl, b2⟩
    have HB2 := hid b2
    have HS2 := hid (HS.out.call b2)
    clear b2
    go_wp2_with fail
    refine (rin_no HU.out _).mono ?_; rintro e w' ⟨rfl, rfl⟩
    go_wp2
    go_ret2
    exact ⟨_, _, m, l, rfl, by omega, HS2.out, fun _ _ h => h, HB2.out⟩
  case pos =>
  have HU := hid hu
  by_cases hv : InB n v
  case neg =>
    have HV := hid hv
    clear hu hv
    go_enter Tryz.func17, Tryz.ntmps17
    go_wp2_with fail
    refine (rtright_is HS.out true ⟨fun _ => rfl, fun _ => HT.out⟩).mono ?_; rintro e w2 ⟨rfl, b2⟩
    have HB2 := hid b2
    have HS2 := hid (HS.out.call b2)
    clear b2
    go_wp2_with fail
    refine (rin_yes HU.out _).mono ?_; rintro e w' ⟨rfl, rfl⟩
    go_wp2_with fail
    refine (rin_no HV.out _).mono ?_; rintro e w' ⟨rfl, rfl⟩
    go_wp2
    go_ret2
    exact ⟨_, _, m, l, rfl, by omega, HS2.out, fun _ _ h => h, HB2.out⟩
  case pos =>
  have HV := hid hv
  clear hu hv
  by_cases huv : u = v
  case pos =>
    subst huv
    have e0 : (u == u) = true := by simp
    go_enter Tryz.func17, Tryz.ntmps17
    go_wp2_with fail
    refine (rtright_is HS.out true ⟨fun _ => rfl, fun _ => HT.out⟩).mono ?_; rintro e w2 ⟨rfl, b2⟩
    have HB2 := hid b2
    have HS2 := hid (HS.out.call b2)
    clear b2
    go_wp2_with fail
    refine (rin_yes HU.out _).mono ?_; rintro e w' ⟨rfl, rfl⟩
    go_wp2_with fail
    refine (rin_yes HV.out _).mono ?_; rintro e w' ⟨rfl, rfl⟩
    go_wp2
    go_ret2
    exact ⟨_, _, m, l, rfl, by omega, HS2.out, fun _ _ h => h, HB2.out⟩
  case neg =>
  have e0 : (u == v) = false := by simp [huv]
  by_cases hgt : v < u
  case pos =>
    have hq1 : ¬ u ≤ v := by omega
    go_enter Tryz.func17, Tryz.ntmps17
    go_wp2_with fail
    refine (rtright_is HS.out true ⟨fun _ => rfl, fun _ => HT.out⟩).mono ?_; rintro e w2 ⟨rfl, b2⟩
    have HB2 := hid b2
    have HS2 := hid (HS.out.call b2)
    clear b2
    go_wp2_with fail
    refine (rin_yes HU.out _).mono ?_; rintro e w' ⟨rfl, rfl⟩
    go_wp2_with fail
    refine (rin_yes HV.out _).mono ?_; rintro e w' ⟨rfl, rfl⟩
    go_wp2_with fail
    refine (rfindE_any (u := u) (v := v) HS2.out).mono ?_; rintro e w' ⟨z, rfl, hz, rfl⟩
    rcases hz with rfl | ⟨z0, z1⟩
    case inr =>
      go_wp2
      go_ret2
      exact ⟨_, _, m, l, rfl, by omega, HS2.out, fun _ _ h => h, HB2.out⟩
    case inl =>
    obtain ⟨w4, hw4⟩ : ∃ W, W = w2.alloc (.cells #[.int .i64 v, .int .i64 u, .int .i64 0] 35) := ⟨_, rfl⟩
    obtain ⟨K, hK⟩ : ∃ K, K = w2.heap.size := ⟨_, rfl⟩
    have D4 : Hid (Blk w4 K 35 [.int .i64 v, .int .i64 u, .int .i64 0]) := hid (by rw [hw4, hK]; exact Blk.new _ _ _)
    have HB4 : Hid (Below w.heap.size w w4) := hid (by rw [hw4]; exact Bl.new HB2.out _)
    have HS4 : Hid (Sl w4 w4.heap.size 3 (.slice A m c) m (eds l)) := hid (by rw [hw4]; exact HS2.out.new _)
    have HW4 := hid hw4
    have HK := hid hK
    clear hw4 hK HB2 HS2
    go_wp2_with fail
    rw [← HK.out, ← HW4.out]
    go_loopw [12, 13] (fun ov iv wr => ∃ i : Nat, iv = .int .i64 (i : Int) ∧ i ≤ m ∧ Hid (wr.ownsRow w4.heap.size 35 3 ov i (eds (l.take i))) ∧ Hid (Below w4.heap.size w4 wr)) (fun _ iv _ => m - (intOf iv).toNat)
    case atStart => exact ⟨0, rfl, Nat.zero_le _, hid (World.ownsRow_nil _ _ _ _), hid (Below.refl _ _)⟩
    case round =>
      obtain ⟨i, rfl, hi, HO, HBr⟩ := hrel
      have Dr := hid (D4.out.below HBr.out D4.out.lt)
      have HSr := hid (HS4.out.call HBr.out)
      have HB5 := hid (Bl.call HB4.out HBr.out)
      have k0 := Dr.out.cell 0
      have k1 := Dr.out.cell 1
      have k2 := Dr.out.cell 2
      have hi63 : (i : Int) ≤ 1000 := by omega
      by_cases hlt : i < m
      case pos =>
        have j0 : (i : Int) < (m : Int) := by omega
        have hil : i < l.length := by rw [HL.out]; exact hlt
        obtain ⟨b6, o6, rfl, hb6, hc6⟩ := HX.out (by omega)
        obtain ⟨p0, p1, p2⟩ := eds_cell hc6 hil
        have q0 := (HB5.out.cell (p := ⟨b6, o6 + i * 3, none⟩) hb6).trans p0
        have q1 := (HB5.out.cell (p := ⟨b6, o6 + i * 3 + 1, none⟩) hb6).trans p1
        have q2 := (HB5.out.cell (p := ⟨b6, o6 + i * 3 + 2, none⟩) hb6).trans p2
        have HTK : Hid (l.take (i + 1) = l.take i ++ [l[i]]) := hid (List.take_succ_eq_append_getElem hil)
        generalize l[i] = e at q0 q1 q2 HTK p0 p1 p2
        obtain ⟨px, py, pt⟩ := e
        dsimp only at q0 q1 q2
        clear p0 p1 p2 hc6 hil
        cases hls : lessE (px, py, pt) (v, u, 0) with
        | true =>
          have HLS := hid hls
          clear hls
          go_wp2_with fail
          go_region_held3 (fun w' => w'.cell? ⟨b6, o6 + i * 3, none⟩ = some (.int .i64 px) ∧ w'.cell? ⟨b6, o6 + i * 3 + 1, none⟩ = some (.int .i64 py) ∧ w'.cell? ⟨b6, o6 + i * 3 + 2, none⟩ = some (.int .i64 pt) ∧ w'.cell? ⟨K, 0, none⟩ = some (.int .i64 v) ∧ w'.cell? ⟨K, 1, none⟩ = some (.int .i64 u) ∧ w'.cell? ⟨K, 2, none⟩ = some (.int .i64 0))
            (first | go_keep | (go_split_ands; and_intros <;> (first | (refine cell_later (by assumption) ?_; first | assumption | (rw [Qt.cell (qt_of _ _)]; assumption) | (rw [Qt.cell (qt_drew _)]; assumption)) | (refine cell_later (bel_new _ _) ?_; assumption))) | (refine cell_later (by assumption) ?_; first | assumption | (rw [Qt.cell (qt_of _ _)]; assumption) | (rw [Qt.cell (qt_drew _)]; assumption)) | (refine cell_later (bel_new _ _) ?_; assumption))
            ((go_at_call 35; (with_reducible refine (rless_is true HLS.out _).mono ?_); rintro e w5 ⟨rfl, b5⟩))
          all_goals
            have B95 : Below wr.heap.size wr w5 := Bl.call (Bl.qt (Below.refl _ _) (by first | exact qt_drew _ | exact qt_of _ _ | exact Qt.refl _)) b5
            have D5 := hid (Dr.out.on B95)
            have HB6 := hid (HBr.out.trans (B95.mono HBr.out.size))
            have HB7 := hid (Bl.call HB4.out HB6.out)
            have HO5 := hid (own_below HO.out B95)
            have HS5 := hid (HSr.out.call B95)
            clear k0 k1 k2 b5
            have q0' := (B95.cell (p := ⟨b6, o6 + i * 3, none⟩) (World.block_lt_of_cell? _ ⟨b6, o6 + i * 3, none⟩ q0)).trans q0
            have q1' := (B95.cell (p := ⟨b6, o6 + i * 3 + 1, none⟩) (World.block_lt_of_cell? _ ⟨b6, o6 + i * 3 + 1, none⟩ q1)).trans q1
            have q2' := (B95.cell (p := ⟨b6, o6 + i * 3 + 2, none⟩) (World.block_lt_of_cell? _ ⟨b6, o6 + i * 3 + 2, none⟩ q2)).trans q2
            clear q0 q1 q2 B95
            have HZ := hid HB6.out.size
            have hby : (i + 1) * 24 ≤ 140737488355328 := by omega
            go_wp2_with (at_builtin; (refine wl_app1 rfl _ _ Tedg rfl (news := [.int .i64 px, .int .i64 py, .int .i64 pt]) rfl HO5.out rfl rfl (eds_one [(px, py, pt)]) hby HZ.out ?_))
            intro v9 w9 o9 b9
            have O9 : Hid (w9.ownsRow w4.heap.size 35 3 v9 (i + 1) (eds (l.take (i + 1)))) := hid (by rw [HTK.out, ← eds_app]; exact o9)
            have B9 := hid (HB6.out.trans b9)
            clear o9 b9
            go_wp2_with fail
            go_roundw
            case rel => exact ⟨i + 1, by go_num, by omega, O9, B9⟩
            case measure => simp [intOf]; omega
        | false =>
          have HLS := hid hls
          clear hls HTK
          go_wp2_with fail
          go_region_held3 (fun w' => w'.cell? ⟨b6, o6 + i * 3, none⟩ = some (.int .i64 px) ∧ w'.cell? ⟨b6, o6 + i * 3 + 1, none⟩ = some (.int .i64 py) ∧ w'.cell? ⟨b6, o6 + i * 3 + 2, none⟩ = some (.int .i64 pt) ∧ w'.cell? ⟨K, 0, none⟩ = some (.int .i64 v) ∧ w'.cell? ⟨K, 1, none⟩ = some (.int .i64 u) ∧ w'.cell? ⟨K, 2, none⟩ = some (.int .i64 0))
            (first | go_keep | (go_split_ands; and_intros <;> (first | (refine cell_later (by assumption) ?_; first | assumption | (rw [Qt.cell (qt_of _ _)]; assumption) | (rw [Qt.cell (qt_drew _)]; assumption)) | (refine cell_later (bel_new _ _) ?_; assumption))) | (refine cell_later (by assumption) ?_; first | assumption | (rw [Qt.cell (qt_of _ _)]; assumption) | (rw [Qt.cell (qt_drew _)]; assumption)) | (refine cell_later (bel_new _ _) ?_; assumption))
            ((go_at_call 35; (with_reducible refine (rless_is false HLS.out _).mono ?_); rintro e w5 ⟨rfl, b5⟩))
          all_goals
            have B95 : Below wr.heap.size wr w5 := Bl.call (Bl.qt (Below.refl _ _) (by first | exact qt_drew _ | exact qt_of _ _ | exact Qt.refl _)) b5
            have D5 := hid (Dr.out.on B95)
            have HB6 := hid (HBr.out.trans (B95.mono HBr.out.size))
            have HB7 := hid (Bl.call HB4.out HB6.out)
            have HO5 := hid (own_below HO.out B95)
            have HS5 := hid (HSr.out.call B95)
            clear k0 k1 k2 b5
            clear q0 q1 q2 B95
            have hsl2 : ∀ w : World, (Instr.slice 26 (.slice (some ⟨b6, o6, none⟩) m c) (some (.int .i64 (i : Int))) none none).run Tryz.prog w = .ok (.slice (cutA (some ⟨b6, o6, none⟩) c i 3) (m - i) (c - i)) w := run_drop_of Tedg (some ⟨b6, o6, none⟩) m c i (by omega)
            have U2 : Hid (Sl w w.heap.size 3 (.slice (cutA (some ⟨b6, o6, none⟩) c i 3) (m - i) (c - i)) (m - i) (eds (l.drop i))) := hid (by rw [← eds_drop]; exact HS.out.drop (by omega))
            generalize cutA (some ⟨b6, o6, none⟩) c i 3 = P2 at *
            have z3 : (i : Int) ≤ (m : Int) := by omega
            have k0 := D5.out.cell 0
            have k1 := D5.out.cell 1
            have k2 := D5.out.cell 2
            have HZ := hid HB6.out.size
            have hby : (i + 1) * 24 ≤ 140737488355328 := by omega
            have hby2 : (i + 1 + (m - i)) * 24 ≤ 140737488355328 := by omega
            go_wp2_with (at_builtin; (refine wl_app1 rfl _ _ Tedg rfl (news := [.int .i64 v, .int .i64 u, .int .i64 0]) rfl HO5.out rfl rfl (eds_one [(v, u, 0)]) hby HZ.out ?_))
            intro v9 w9 o9 b9
            have O9 : Hid (w9.ownsRow w4.heap.size 35 3 v9 (i + 1) (eds (l.take i ++ [(v, u, 0)]))) := hid (by rw [← eds_app]; simpa [eds] using o9)
            have B9 := hid (HB6.out.trans b9)
            have HW9 := hid (HB4.out.trans (B9.out.mono HB4.out.size))
            clear o9 b9
            have HZ9 := hid B9.out.size
            have U29 : Hid (Sl w9 w.heap.size 3 (.slice P2 (m - i) (c - i)) (m - i) (eds (l.drop i))) := hid (U2.out.below HW9.out (Nat.le_refl _))
            go_wp2_with (at_builtin; (refine wl_app rfl _ _ Tedg rfl rfl O9.out rfl U29.out (eds_one _) hby2 HZ9.out ?_))
            intro v10 w10 o10 b10
            have S10 : Hid (Sl w10 w10.heap.size 3 v10 (i + 1 + (m - i)) (eds (l.take i ++ [(v, u, 0)] ++ l.drop i))) := hid (by have h := Sl.of_own o10; rw [← eds_app]; exact h)
            have B10 := hid b10
            have F10 : Hid (∀ K, K < w.heap.size → Off K v10) := hid (fun K hK => own_isOff o10 (Nat.lt_of_lt_of_le hK HB4.out.size))
            clear o10 b10
            go_wp2
            go_ret2
            exact ⟨_, _, i + 1 + (m - i), l.take i ++ [(v, u, 0)] ++ l.drop i, rfl, by omega, S10.out, fun K hK _ => F10.out K hK, HB4.out.trans ((B9.out.trans B10.out).mono HB4.out.size)⟩
      case neg =>
        have j0 : ¬ (i : Int) < (m : Int) := by omega
        go_wp2_with fail
        go_quiet (fail)
        rename_i nq
        obtain ⟨w5, hw5⟩ : ∃ W, W = wr.drewN nq := ⟨_, rfl⟩
        have B95 : Below wr.heap.size wr w5 := by rw [hw5]; exact (qt_of _ _).bel
        rw [← hw5]
        have HW5 := hid hw5
        clear hw5
        have D5 := hid (Dr.out.on B95)
        have HB6 := hid (HBr.out.trans (B95.mono HBr.out.size))
        have HO5 := hid (own_below HO.out B95)
        clear k0 k1 k2 B95
        have hsl2 : ∀ w : World, (Instr.slice 26 (.slice A m c) (some (.int .i64 (i : Int))) none none).run Tryz.prog w = .ok (.slice (cutA A c i 3) (m - i) (c - i)) w := run_drop_of Tedg A m c i (by omega)
        have U2 : Hid (Sl w w.heap.size 3 (.slice (cutA A c i 3) (m - i) (c - i)) (m - i) (eds (l.drop i))) := hid (by rw [← eds_drop]; exact HS.out.drop (by omega))
        generalize cutA A c i 3 = P2 at *
        have z3 : (i : Int) ≤ (m : Int) := by omega
        have k0 := D5.out.cell 0
        have k1 := D5.out.cell 1
        have k2 := D5.out.cell 2
        have HZ := hid HB6.out.size
        have hby : (i + 1) * 24 ≤ 140737488355328 := by omega
        have hby2 : (i + 1 + (m - i)) * 24 ≤ 140737488355328 := by omega
        go_wp2_with (at_builtin; (refine wl_app1 rfl _ _ Tedg rfl (news := [.int .i64 v, .int .i64 u, .int .i64 0]) rfl HO5.out rfl rfl (eds_one [(v, u, 0)]) hby HZ.out ?_))
        intro v9 w9 o9 b9
        have O9 : Hid (w9.ownsRow w4.heap.size 35 3 v9 (i + 1) (eds (l.take i ++ [(v, u, 0)]))) := hid (by rw [← eds_app]; simpa [eds] using o9)
        have B9 := hid (HB6.out.trans b9)
        have HW9 := hid (HB4.out.trans (B9.out.mono HB4.out.size))
        clear o9 b9
        have HZ9 := hid B9.out.size
        have U29 : Hid (Sl w9 w.heap.size 3 (.slice P2 (m - i) (c - i)) (m - i) (eds (l.drop i))) := hid (U2.out.below HW9.out (Nat.le_refl _))
        go_wp2_with (at_builtin; (refine wl_app rfl _ _ Tedg rfl rfl O9.out rfl U29.out (eds_one _) hby2 HZ9.out ?_))
        intro v10 w10 o10 b10
        have S10 : Hid (Sl w10 w10.heap.size 3 v10 (i + 1 + (m - i)) (eds (l.take i ++ [(v, u, 0)] ++ l.drop i))) := hid (by have h := Sl.of_own o10; rw [← eds_app]; exact h)
        have B10 := hid b10
        have F10 : Hid (∀ K, K < w.heap.size → Off K v10) := hid (fun K hK => own_isOff o10 (Nat.lt_of_lt_of_le hK HB4.out.size))
        clear o10 b10
        go_wp2
        go_ret2
        exact ⟨_, _, i + 1 + (m - i), l.take i ++ [(v, u, 0)] ++ l.drop i, rfl, by omega, S10.out, fun K hK _ => F10.out K hK, HB4.out.trans ((B9.out.trans B10.out).mono HB4.out.size)⟩
  case neg =>
    have hq1 : u ≤ v := by omega
    go_enter Tryz.func17, Tryz.ntmps17
    go_wp2_with fail
    refine (rtright_is HS.out true ⟨fun _ => rfl, fun _ => HT.out⟩).mono ?_; rintro e w2 ⟨rfl, b2⟩
    have HB2 := hid b2
    have HS2 := hid (HS.out.call b2)
    clear b2
    go_wp2_with fail
    refine (rin_yes HU.out _).mono ?_; rintro e w' ⟨rfl, rfl⟩
    go_wp2_with fail
    refine (rin_yes HV.out _).mono ?_; rintro e w' ⟨rfl, rfl⟩
    go_wp2_with fail
    refine (rfindE_any (u := u) (v := v) HS2.out).mono ?_; rintro e w' ⟨z, rfl, hz, rfl⟩
    rcases hz with rfl | ⟨z0, z1⟩
    case inr =>
      go_wp2
      go_ret2
      exact ⟨_, _, m, l, rfl, by omega, HS2.out, fun _ _ h => h, HB2.out⟩
    case inl =>
    obtain ⟨w4, hw4⟩ : ∃ W, W = w2.alloc (.cells #[.int .i64 u, .int .i64 v, .int .i64 0] 35) := ⟨_, rfl⟩
    obtain ⟨K, hK⟩ : ∃ K, K = w2.heap.size := ⟨_, rfl⟩
    have D4 : Hid (Blk w4 K 35 [.int .i64 u, .int .i64 v, .int .i64 0]) := hid (by rw [hw4, hK]; exact Blk.new _ _ _)
    have HB4 : Hid (Below w.heap.size w w4) := hid (by rw [hw4]; exact Bl.new HB2.out _)
    have HS4 : Hid (Sl w4 w4.heap.size 3 (.slice A m c) m (eds l)) := hid (by rw [hw4]; exact HS2.out.new _)
    have HW4 := hid hw4
    have HK := hid hK
    clear hw4 hK HB2 HS2
    go_wp2_with fail
    rw [← HK.out, ← HW4.out]
    go_loopw [12, 13] (fun ov iv wr => ∃ i : Nat, iv = .int .i64 (i : Int) ∧ i ≤ m ∧ Hid (wr.ownsRow w4.heap.size 35 3 ov i (eds (l.take i))) ∧ Hid (Below w4.heap.size w4 wr)) (fun _ iv _ => m - (intOf iv).toNat)
    case atStart => exact ⟨0, rfl, Nat.zero_le _, hid (World.ownsRow_nil _ _ _ _), hid (Below.refl _ _)⟩
    case round =>
      obtain ⟨i, rfl, hi, HO, HBr⟩ := hrel
      have Dr := hid (D4.out.below HBr.out D4.out.lt)
      have HSr := hid (HS4.out.call HBr.out)
      have HB5 := hid (Bl.call HB4.out HBr.out)
      have k0 := Dr.out.cell 0
      have k1 := Dr.out.cell 1
      have k2 := Dr.out.cell 2
      have hi63 : (i : Int) ≤ 1000 := by omega
      by_cases hlt : i < m
      case pos =>
        have j0 : (i : Int) < (m : Int) := by omega
        have hil : i < l.length := by rw [HL.out]; exact hlt
        obtain ⟨b6, o6, rfl, hb6, hc6⟩ := HX.out (by omega)
        obtain ⟨p0, p1, p2⟩ := eds_cell hc6 hil
        have q0 := (HB5.out.cell (p := ⟨b6, o6 + i * 3, none⟩) hb6).trans p0
        have q1 := (HB5.out.cell (p := ⟨b6, o6 + i * 3 + 1, none⟩) hb6).trans p1
        have q2 := (HB5.out.cell (p := ⟨b6, o6 + i * 3 + 2, none⟩) hb6).trans p2
        have HTK : Hid (l.take (i + 1) = l.take i ++ [l[i]]) := hid (List.take_succ_eq_append_getElem hil)
        generalize l[i] = e at q0 q1 q2 HTK p0 p1 p2
        obtain ⟨px, py, pt⟩ := e
        dsimp only at q0 q1 q2
        clear p0 p1 p2 hc6 hil
        cases hls : lessE (px, py, pt) (u, v, 0) with
        | true =>
          have HLS := hid hls
          clear hls
          go_wp2_with fail
          go_region_held3 (fun w' => w'.cell? ⟨b6, o6 + i * 3, none⟩ = some (.int .i64 px) ∧ w'.cell? ⟨b6, o6 + i * 3 + 1, none⟩ = some (.int .i64 py) ∧ w'.cell? ⟨b6, o6 + i * 3 + 2, none⟩ = some (.int .i64 pt) ∧ w'.cell? ⟨K, 0, none⟩ = some (.int .i64 u) ∧ w'.cell? ⟨K, 1, none⟩ = some (.int .i64 v) ∧ w'.cell? ⟨K, 2, none⟩ = some (.int .i64 0))
            (first | go_keep | (go_split_ands; and_intros <;> (first | (refine cell_later (by assumption) ?_; first | assumption | (rw [Qt.cell (qt_of _ _)]; assumption) | (rw [Qt.cell (qt_drew _)]; assumption)) | (refine cell_later (bel_new _ _) ?_; assumption))) | (refine cell_later (by assumption) ?_; first | assumption | (rw [Qt.cell (qt_of _ _)]; assumption) | (rw [Qt.cell (qt_drew _)]; assumption)) | (refine cell_later (bel_new _ _) ?_; assumption))
            ((go_at_call 35; (with_reducible refine (rless_is true HLS.out _).mono ?_); rintro e w5 ⟨rfl, b5⟩))
          all_goals
            have B95 : Below wr.heap.size wr w5 := Bl.call (Bl.qt (Below.refl _ _) (by first | exact qt_drew _ | exact qt_of _ _ | exact Qt.refl _)) b5
            have D5 := hid (Dr.out.on B95)
            have HB6 := hid (HBr.out.trans (B95.mono HBr.out.size))
            have HB7 := hid (Bl.call HB4.out HB6.out)
            have HO5 := hid (own_below HO.out B95)
            have HS5 := hid (HSr.out.call B95)
            clear k0 k1 k2 b5
            have q0' := (B95.cell (p := ⟨b6, o6 + i * 3, none⟩) (World.block_lt_of_cell? _ ⟨b6, o6 + i * 3, none⟩ q0)).trans q0
            have q1' := (B95.cell (p := ⟨b6, o6 + i * 3 + 1, none⟩) (World.block_lt_of_cell? _ ⟨b6, o6 + i * 3 + 1, none⟩ q1)).trans q1
            have q2' := (B95.cell (p := ⟨b6, o6 + i * 3 + 2, none⟩) (World.block_lt_of_cell? _ ⟨b6, o6 + i * 3 + 2, none⟩ q2)).trans q2
            clear q0 q1 q2 B95
            have HZ := hid HB6.out.size
            have hby : (i + 1) * 24 ≤ 140737488355328 := by omega
            go_wp2_with (at_builtin; (refine wl_app1 rfl _ _ Tedg rfl (news := [.int .i64 px, .int .i64 py, .int .i64 pt]) rfl HO5.out rfl rfl (eds_one [(px, py, pt)]) hby HZ.out ?_))
            intro v9 w9 o9 b9
            have O9 : Hid (w9.ownsRow w4.heap.size 35 3 v9 (i + 1) (eds (l.take (i + 1)))) := hid (by rw [HTK.out, ← eds_app]; exact o9)
            have B9 := hid (HB6.out.trans b9)
            clear o9 b9
            go_wp2_with fail
            go_roundw
            case rel => exact ⟨i + 1, by go_num, by omega, O9, B9⟩
            case measure => simp [intOf]; omega
        | false =>
          have HLS := hid hls
          clear hls HTK
          go_wp2_with fail
          go_region_held3 (fun w' => w'.cell? ⟨b6, o6 + i * 3, none⟩ = some (.int .i64 px) ∧ w'.cell? ⟨b6, o6 + i * 3 + 1, none⟩ = some (.int .i64 py) ∧ w'.cell? ⟨b6, o6 + i * 3 + 2, none⟩ = some (.int .i64 pt) ∧ w'.cell? ⟨K, 0, none⟩ = some (.int .i64 u) ∧ w'.cell? ⟨K, 1, none⟩ = some (.int .i64 v) ∧ w'.cell? ⟨K, 2, none⟩ = some (.int .i64 0))
            (first | go_keep | (go_split_ands; and_intros <;> (first | (refine cell_later (by assumption) ?_; first | assumption | (rw [Qt.cell (qt_of _ _)]; assumption) | (rw [Qt.cell (qt_drew _)]; assumption)) | (refine cell_later (bel_new _ _) ?_; assumption))) | (refine cell_later (by assumption) ?_; first | assumption | (rw [Qt.cell (qt_of _ _)]; assumption) | (rw [Qt.cell (qt_drew _)]; assumption)) | (refine cell_later (bel_new _ _) ?_; assumption))
            ((go_at_call 35; (with_reducible refine (rless_is false HLS.out _).mono ?_); rintro e w5 ⟨rfl, b5⟩))
          all_goals
            have B95 : Below wr.heap.size wr w5 := Bl.call (Bl.qt (Below.refl _ _) (by first | exact qt_drew _ | exact qt_of _ _ | exact Qt.refl _)) b5
            have D5 := hid (Dr.out.on B95)
            have HB6 := hid (HBr.out.trans (B95.mono HBr.out.size))
            have HB7 := hid (Bl.call HB4.out HB6.out)
            have HO5 := hid (own_below HO.out B95)
            have HS5 := hid (HSr.out.call B95)
            clear k0 k1 k2 b5
            clear q0 q1 q2 B95
            have hsl2 : ∀ w : World, (Instr.slice 26 (.slice (some ⟨b6, o6, none⟩) m c) (some (.int .i64 (i : Int))) none none).run Tryz.prog w = .ok (.slice (cutA (some ⟨b6, o6, none⟩) c i 3) (m - i) (c - i)) w := run_drop_of Tedg (some ⟨b6, o6, none⟩) m c i (by omega)
            have U2 : Hid (Sl w w.heap.size 3 (.slice (cutA (some ⟨b6, o6, none⟩) c i 3) (m - i) (c - i)) (m - i) (eds (l.drop i))) := hid (by rw [← eds_drop]; exact HS.out.drop (by omega))
            generalize cutA (some ⟨b6, o6, none⟩) c i 3 = P2 at *
            have z3 : (i : Int) ≤ (m : Int) := by omega
            have k0 := D5.out.cell 0
            have k1 := D5.out.cell 1
            have k2 := D5.out.cell 2
            have HZ := hid HB6.out.size
            have hby : (i + 1) * 24 ≤ 140737488355328 := by omega
            have hby2 : (i + 1 + (m - i)) * 24 ≤ 140737488355328 := by omega
            go_wp2_with (at_builtin; (refine wl_app1 rfl _ _ Tedg rfl (news := [.int .i64 u, .int .i64 v, .int .i64 0]) rfl HO5.out rfl rfl (eds_one [(u, v, 0)]) hby HZ.out ?_))
            intro v9 w9 o9 b9
            have O9 : Hid (w9.ownsRow w4.heap.size 35 3 v9 (i + 1) (eds (l.take i ++ [(u, v, 0)]))) := hid (by rw [← eds_app]; simpa [eds] using o9)
            have B9 := hid (HB6.out.trans b9)
            have HW9 := hid (HB4.out.trans (B9.out.mono HB4.out.size))
            clear o9 b9
            have HZ9 := hid B9.out.size
            have U29 : Hid (Sl w9 w.heap.size 3 (.slice P2 (m - i) (c - i)) (m - i) (eds (l.drop i))) := hid (U2.out.below HW9.out (Nat.le_refl _))
            go_wp2_with (at_builtin; (refine wl_app rfl _ _ Tedg rfl rfl O9.out rfl U29.out (eds_one _) hby2 HZ9.out ?_))
            intro v10 w10 o10 b10
            have S10 : Hid (Sl w10 w10.heap.size 3 v10 (i + 1 + (m - i)) (eds (l.take i ++ [(u, v, 0)] ++ l.drop i))) := hid (by have h := Sl.of_own o10; rw [← eds_app]; exact h)
            have B10 := hid b10
            have F10 : Hid (∀ K, K < w.heap.size → Off K v10) := hid (fun K hK => own_isOff o10 (Nat.lt_of_lt_of_le hK HB4.out.size))
            clear o10 b10
            go_wp2
            go_ret2
            exact ⟨_, _, i + 1 + (m - i), l.take i ++ [(u, v, 0)] ++ l.drop i, rfl, by omega, S10.out, fun K hK _ => F10.out K hK, HB4.out.trans ((B9.out.trans B10.out).mono HB4.out.size)⟩
      case neg =>
        have j0 : ¬ (i : Int) < (m : Int) := by omega
        go_wp2_with fail
        go_quiet (fail)
        rename_i nq
        obtain ⟨w5, hw5⟩ : ∃ W, W = wr.drewN nq := ⟨_, rfl⟩
        have B95 : Below wr.heap.size wr w5 := by rw [hw5]; exact (qt_of _ _).bel
        rw [← hw5]
        have HW5 := hid hw5
        clear hw5
        have D5 := hid (Dr.out.on B95)
        have HB6 := hid (HBr.out.trans (B95.mono HBr.out.size))
        have HO5 := hid (own_below HO.out B95)
        clear k0 k1 k2 B95
        have hsl2 : ∀ w : World, (Instr.slice 26 (.slice A m c) (some (.int .i64 (i : Int))) none none).run Tryz.prog w = .ok (.slice (cutA A c i 3) (m - i) (c - i)) w := run_drop_of Tedg A m c i (by omega)
        have U2 : Hid (Sl w w.heap.size 3 (.slice (cutA A c i 3) (m - i) (c - i)) (m - i) (eds (l.drop i))) := hid (by rw [← eds_drop]; exact HS.out.drop (by omega))
        generalize cutA A c i 3 = P2 at *
        have z3 : (i : Int) ≤ (m : Int) := by omega
        have k0 := D5.out.cell 0
        have k1 := D5.out.cell 1
        have k2 := D5.out.cell 2
        have HZ := hid HB6.out.size
        have hby : (i + 1) * 24 ≤ 140737488355328 := by omega
        have hby2 : (i + 1 + (m - i)) * 24 ≤ 140737488355328 := by omega
        go_wp2_with (at_builtin; (refine wl_app1 rfl _ _ Tedg rfl (news := [.int .i64 u, .int .i64 v, .int .i64 0]) rfl HO5.out rfl rfl (eds_one [(u, v, 0)]) hby HZ.out ?_))
        intro v9 w9 o9 b9
        have O9 : Hid (w9.ownsRow w4.heap.size 35 3 v9 (i + 1) (eds (l.take i ++ [(u, v, 0)]))) := hid (by rw [← eds_app]; simpa [eds] using o9)
        have B9 := hid (HB6.out.trans b9)
        have HW9 := hid (HB4.out.trans (B9.out.mono HB4.out.size))
        clear o9 b9
        have HZ9 := hid B9.out.size
        have U29 : Hid (Sl w9 w.heap.size 3 (.slice P2 (m - i) (c - i)) (m - i) (eds (l.drop i))) := hid (U2.out.below HW9.out (Nat.le_refl _))
        go_wp2_with (at_builtin; (refine wl_app rfl _ _ Tedg rfl rfl O9.out rfl U29.out (eds_one _) hby2 HZ9.out ?_))
        intro v10 w10 o10 b10
        have S10 : Hid (Sl w10 w10.heap.size 3 v10 (i + 1 + (m - i)) (eds (l.take i ++ [(u, v, 0)] ++ l.drop i))) := hid (by have h := Sl.of_own o10; rw [← eds_app]; exact h)
        have B10 := hid b10
        have F10 : Hid (∀ K, K < w.heap.size → Off K v10) := hid (fun K hK => own_isOff o10 (Nat.lt_of_lt_of_le hK HB4.out.size))
        clear o10 b10
        go_wp2
        go_ret2
        exact ⟨_, _, i + 1 + (m - i), l.take i ++ [(u, v, 0)] ++ l.drop i, rfl, by omega, S10.out, fun K hK _ => F10.out K hK, HB4.out.trans ((B9.out.trans B10.out).mono HB4.out.size)⟩
def HownPost (n : Nat) (p : List (Nat × Nat)) (w : World) (e : Ending) (w' : World) : Prop := ∃ A c, e = .returned (.slice A n c) ∧ w'.ownsRow w.heap.size 42 2 (.slice A n c) n (hcs p) ∧ Below w.heap.size w w'
theorem own_lit {w : World} {base : Nat} {e : TypeId} {sz n : Nat} {v : Value} {xs : List Value} (h : w.ownsRow base e sz v n xs) : ∃ A c, v = .slice A n c := by
  rcases h.2 with ⟨h1, h2⟩ | ⟨k, cap, cur, h1, _⟩
  · subst h2; exact ⟨_, _, h1⟩
  · exact ⟨_, _, h1⟩
theorem hclone_own (v : Value) (n B : Nat) (p : List (Nat × Nat)) (w : World) (hs : Sl w B 2 v n (hcs p)) (hB : B ≤ w.heap.size) (hr : n ≤ 8796093022208) :
    Calls Tryz.prog 27 #[v] w (HownPost n p w) := by
  have hs0 := hid hs
  obtain ⟨A, c, rfl, hnc, hcm, hl, hx⟩ := hs
  have heq := fun w => Lib.run_eql_slice_nil (P := Tryz.prog) w 24 42 A n c 0 0 Tryz.underlying24
  cases A with
  | none =>
    have hn : n = 0 := by
      rcases Nat.eq_zero_or_pos n with h | h
      · exact h
      · obtain ⟨_, _, h', _⟩ := hx h; cases h'
    subst hn
    have hp : p = [] := List.eq_nil_of_length_eq_zero (by have := hl; rw [len_hcs] at this; omega)
    subst hp
    go_enter Tryz.func27, Tryz.ntmps27
    go_wp2
    go_ret
    exact ⟨_, _, rfl, World.ownsRow_nil _ _ _ _, Below.refl _ _⟩
  | some ad =>
    clear hx
    go_enter Tryz.func27, Tryz.ntmps27
    go_wp2_with (at_builtin; refine wl_app rfl _ _ Thsh rfl rfl (own_empty w _ _ _ (Nat.le_refl _)) rfl (hs0.out.alloc hB _) (hcs_one _) (by omega) (by simp) ?_)
    intro v' w' hown hbel
    have hown2 : w'.ownsRow w.heap.size 42 2 v' n (hcs p) := by simpa using hown
    obtain ⟨A', c', hv⟩ := own_lit hown2
    subst hv
    go_wp2
    go_ret
    exact ⟨_, _, rfl, hown2, ((Below.refl _ _).alloc (Nat.le_refl _) _).trans hbel⟩
theorem cell_set5 {w : World} {K b i : Nat} {u a1 a2 a3 a4 a5 : Value} (hne : K ≠ b) (h : w.cell? ⟨K, i, none⟩ = some u) : (((((w.setCell ⟨b, 0, none⟩ (a1)).setCell ⟨b, 1, none⟩ (a2)).setCell ⟨b, 2, none⟩ (a3)).setCell ⟨b, 3, none⟩ (a4)).setCell ⟨b, 4, none⟩ (a5)).cell? ⟨K, i, none⟩ = some u := by
  rw [← h]
  unfold World.cell?
  rw [Below.heap_setCell _ _ _ _ hne, Below.heap_setCell _ _ _ _ hne, Below.heap_setCell _ _ _ _ hne, Below.heap_setCell _ _ _ _ hne, Below.heap_setCell _ _ _ _ hne]
def OffB (K : Nat) (v : Value) : Prop := ∀ k, v.ownBlock = some k → k ≠ K
theorem own_isOffB {w : World} {base sz n K : Nat} {e : TypeId} {v : Value} {xs : List Value} (h : w.ownsRow base e sz v n xs) (hK : K < base) : OffB K v := fun k hk => by have := (h.lt k hk).1; omega
theorem own_off5 {w : World} {base sz n k K : Nat} {A : Option Addr} {e : TypeId} {xs : List Value} (h : w.ownsRow base e sz (.slice A n k) n xs) (ho : OffB K (.slice A n k)) (a b c d g : Value) : (((((w.setCell ⟨K, 0, none⟩ (a)).setCell ⟨K, 1, none⟩ (b)).setCell ⟨K, 2, none⟩ (c)).setCell ⟨K, 3, none⟩ (d)).setCell ⟨K, 4, none⟩ (g)).ownsRow base e sz (.slice A n k) n xs := by
  refine own_keep h fun b hb => ?_
  have hne : b ≠ K := ho b hb
  rw [Below.heap_setCell _ _ _ _ hne, Below.heap_setCell _ _ _ _ hne, Below.heap_setCell _ _ _ _ hne, Below.heap_setCell _ _ _ _ hne, Below.heap_setCell _ _ _ _ hne]
theorem own_put5 {w : World} {base base2 sz n K : Nat} {e : TypeId} {v a b c d g : Value} {xs : List Value} (h : w.ownsRow base e sz v n xs) (hK : K < base2) (h2 : w.ownsRow base2 e sz v n xs) : ((((((w.setCell ⟨K, 0, none⟩ (a)).setCell ⟨K, 1, none⟩ (b)).setCell ⟨K, 2, none⟩ (c)).setCell ⟨K, 3, none⟩ (d)).setCell ⟨K, 4, none⟩ (g))).ownsRow base e sz v n xs := by
  refine own_keep h fun k hk => ?_
  have := (h2.lt k hk).1
  have hne : k ≠ K := by omega
  rw [Below.heap_setCell _ _ _ _ hne, Below.heap_setCell _ _ _ _ hne, Below.heap_setCell _ _ _ _ hne, Below.heap_setCell _ _ _ _ hne, Below.heap_setCell _ _ _ _ hne]
def NewPost (N L R : Int) (b : Bool) (hs : List (Nat × Nat)) (w : World) (e : Ending) (w' : World) : Prop :=
  if b = true then ∃ A c, e = .returned (.tuple #[.agg #[.int .i64 N, .int .i64 L, .int .i64 R, .slice A hs.length c, .slice none 0 0], .int .i64 0]) ∧ w'.ownsRow w.heap.size 42 2 (.slice A hs.length c) hs.length (hcs hs) ∧ Below w.heap.size w w'
  else e = .returned (.tuple #[.agg #[.int .i64 0, .int .i64 0, .int .i64 0, .slice none 0 0, .slice none 0 0], .int .i64 1]) ∧ Below w.heap.size w w'
set_option maxHeartbeats 16000000 in
set_option maxRecDepth 100000 in
theorem tnew_is {N L R : Int} {vh : Value} {hs : List (Nat × Nat)} {w : World} (h1 : Sl w w.heap.size 2 vh hs.length (hcs hs)) (hr : hs.length ≤ 8796093022208) (b : Bool) (hb : GR N L R (hz hs) [] ↔ b = true) :
    Calls Tryz.prog 13 #[.agg #[.int .i64 N, .int .i64 L, .int .i64 R], vh] w (NewPost N L R b hs w) := by
  obtain ⟨nh, hnh⟩ : ∃ k, hs.length = k := ⟨_, rfl⟩
  have HNH := hid hnh
  rw [hnh] at h1 hr
  have HB0 := hid hb
  have S0 := hid h1
  obtain ⟨A1, c1, rfl, _, _, _, _⟩ := h1
  clear hb hnh
  obtain ⟨w1, hw1⟩ : ∃ W, W = w.alloc (.cells #[.int .i64 N, .int .i64 L, .int .i64 R] 23) := ⟨_, rfl⟩
  obtain ⟨w2, hw2⟩ : ∃ W, W = w1.alloc (.cells #[.int .i64 0, .int .i64 0, .int .i64 0, .slice none 0 0, .slice none 0 0] 28) := ⟨_, rfl⟩
  obtain ⟨KC, hKC⟩ : ∃ K, K = w.heap.size := ⟨_, rfl⟩
  obtain ⟨K4, hK4⟩ : ∃ K, K = KC + 1 := ⟨_, rfl⟩
  have hsz1 : w1.heap.size = KC + 1 := by rw [hw1, hKC]; simp
  have DC : Hid (Blk w2 KC 23 [.int .i64 N, .int .i64 L, .int .i64 R]) := hid (by rw [hw2, hw1, hKC]; exact (Blk.new _ _ _).alloc _)
  have D4 : Hid (Blk w2 K4 28 [.int .i64 0, .int .i64 0, .int .i64 0, .slice none 0 0, .slice none 0 0]) := hid (by rw [hw2, hK4, ← hsz1]; exact Blk.new _ _ _)
  have HB : Hid (Below w.heap.size w w2) := hid (by rw [hw2, hw1]; exact Bl.new (bel_new _ _) _)
  have S2 : Hid (Sl w2 w2.heap.size 2 (.slice A1 nh c1) nh (hcs hs)) := hid (by rw [hw2, hw1]; exact (S0.out.new _).new _)
  have LO4 : Hid (w.heap.size ≤ K4) := hid (by omega)
  have HW1 := hid hw1
  have HW2 := hid hw2
  have HKC := hid hKC
  have HK4 := hid hK4
  clear hw1 hw2 hKC hK4 hsz1
  go_enter Tryz.func13, Tryz.ntmps13
  go_upto_region 1 with (fail)
  rw [← HW1.out, ← HKC.out, ← HK4.out, ← HW2.out]
  go_cut [6] (fun sv wx => ∃ K6 An cn, sv = .pointer (some ⟨K6, 0, none⟩) ∧ Hid (Blk wx K6 28 [.int .i64 N, .int .i64 L, .int .i64 R, .slice An nh cn, .slice none 0 0] ∧ w2.heap.size ≤ K6) ∧ Hid (wx.ownsRow w.heap.size 42 2 (.slice An nh cn) nh (hcs hs)) ∧ Hid (OffB K4 (.slice An nh cn)) ∧ Hid (Below w2.heap.size w2 wx))
  case first =>
    have g0 := DC.out.cell 0
    have g1 := DC.out.cell 1
    have g2 := DC.out.cell 2
    have hgl := DC.out.lt
    have hgl4 := D4.out.lt
    have HWL := HB.out.size
    have nk0 : KC ≠ w2.heap.size := by omega
    refine wp_region_held_drew (S := fun w' => w'.cell? ⟨KC, 0, none⟩ = some (.int .i64 N) ∧ w'.cell? ⟨KC, 1, none⟩ = some (.int .i64 L) ∧ w'.cell? ⟨KC, 2, none⟩ = some (.int .i64 R)) (by kernel_rfl) ⟨g0, g1, g2⟩ (fun hHeld => ?_)
    refine wpAnyH_take (i := 0) (oi := _) (v := ?rv1) rfl (by kernel_rfl) (by kernel_rfl) (by kernel_rfl) (fun _ _ _ h => h) (Or.inl ⟨by rfl, ?ry1⟩) (by assumption) ?rr1
    case ry1 => (intro w hSw; obtain ⟨y0, y1, y2⟩ := hSw; go_simp; try (with_reducible rfl))
    (try simp only [Act.put, putL])
    refine wpAnyH_take (i := 1) (oi := _) (v := ?rv2) rfl (by kernel_rfl) (by kernel_rfl) (by kernel_rfl) (fun _ _ _ h => h) (Or.inl ⟨by rfl, ?ry2⟩) (by assumption) ?rr2
    case ry2 => (intro w hSw; (try dsimp only at hSw); go_simp; try (with_reducible rfl))
    (try simp only [Act.put, putL])
    refine wpAnyH_ready (rs := [2, 4]) (by kernel_rfl) (by simp) ?_
    refine AllReadyH.cons (o := _) rfl (fun K hK => ?_) ?_
    · go_simp
      go_at_call 27
      refine (hclone_own _ nh _ hs _ (S2.out.cqt (qt_drew _)) (Nat.le_refl _) hr).mono ?_
      rintro e w5 ⟨An, cn, rfl, o5, b5⟩
      have hz5 := b5.size
      (try simp at hz5)
      have nk5 : KC ≠ w5.heap.size := by omega
      refine hK.out _ _ ?_ (fun hHeld => ?_)
      · (first | with_reducible exact ⟨cell_later b5 hHeld.1, cell_later b5 hHeld.2.1, cell_later b5 hHeld.2.2⟩ | with_reducible exact hHeld | with_reducible exact ⟨cell_set5 nk0 hHeld.1, cell_set5 nk0 hHeld.2.1, cell_set5 nk0 hHeld.2.2⟩ | with_reducible exact ⟨cell_set5 nk5 hHeld.1, cell_set5 nk5 hHeld.2.1, cell_set5 nk5 hHeld.2.2⟩ | with_reducible exact ⟨cell_later (bel_new w5 _) hHeld.1, cell_later (bel_new w5 _) hHeld.2.1, cell_later (bel_new w5 _) hHeld.2.2⟩ | with_reducible exact ⟨alloc_swap _ (Ne.symm nk5) hHeld.1, alloc_swap _ (Ne.symm nk5) hHeld.2.1, alloc_swap _ (Ne.symm nk5) hHeld.2.2⟩ | (exact ⟨cell_later (Bl.qt (bel_new w2 _) (qt_drew _)) g0, cell_later (Bl.qt (bel_new w2 _) (qt_drew _)) g1, cell_later (Bl.qt (bel_new w2 _) (qt_drew _)) g2⟩))
      clear hK K
      (try simp only [Act.put, putL])
      refine wpAnyH_ready (rs := [3, 4]) (by kernel_rfl) (by simp) ?_
      refine AllReadyH.cons (o := _) rfl (fun K hK => ?_) ?_
      · go_simp
        refine hK.out _ _ ?_ (fun hHeld => ?_)
        · (first | with_reducible exact ⟨cell_later b5 hHeld.1, cell_later b5 hHeld.2.1, cell_later b5 hHeld.2.2⟩ | with_reducible exact hHeld | with_reducible exact ⟨cell_set5 nk0 hHeld.1, cell_set5 nk0 hHeld.2.1, cell_set5 nk0 hHeld.2.2⟩ | with_reducible exact ⟨cell_set5 nk5 hHeld.1, cell_set5 nk5 hHeld.2.1, cell_set5 nk5 hHeld.2.2⟩ | with_reducible exact ⟨cell_later (bel_new w5 _) hHeld.1, cell_later (bel_new w5 _) hHeld.2.1, cell_later (bel_new w5 _) hHeld.2.2⟩ | with_reducible exact ⟨alloc_swap _ (Ne.symm nk5) hHeld.1, alloc_swap _ (Ne.symm nk5) hHeld.2.1, alloc_swap _ (Ne.symm nk5) hHeld.2.2⟩ | (exact ⟨cell_later (Bl.qt (bel_new w2 _) (qt_drew _)) g0, cell_later (Bl.qt (bel_new w2 _) (qt_drew _)) g1, cell_later (Bl.qt (bel_new w2 _) (qt_drew _)) g2⟩))
        clear hK K
        (try simp only [Act.put, putL])
        refine wpAnyH_ready (rs := [4]) (by kernel_rfl) (by simp) ?_
        refine AllReadyH.cons (o := _) rfl (fun K hK => ?_) ?_
        · go_simp
          refine hK.out _ _ ?_ (fun hHeld => ?_)
          · (first | with_reducible exact ⟨cell_later b5 hHeld.1, cell_later b5 hHeld.2.1, cell_later b5 hHeld.2.2⟩ | with_reducible exact hHeld | with_reducible exact ⟨cell_set5 nk0 hHeld.1, cell_set5 nk0 hHeld.2.1, cell_set5 nk0 hHeld.2.2⟩ | with_reducible exact ⟨cell_set5 nk5 hHeld.1, cell_set5 nk5 hHeld.2.1, cell_set5 nk5 hHeld.2.2⟩ | with_reducible exact ⟨cell_later (bel_new w5 _) hHeld.1, cell_later (bel_new w5 _) hHeld.2.1, cell_later (bel_new w5 _) hHeld.2.2⟩ | with_reducible exact ⟨alloc_swap _ (Ne.symm nk5) hHeld.1, alloc_swap _ (Ne.symm nk5) hHeld.2.1, alloc_swap _ (Ne.symm nk5) hHeld.2.2⟩ | (exact ⟨cell_later (Bl.qt (bel_new w2 _) (qt_drew _)) g0, cell_later (Bl.qt (bel_new w2 _) (qt_drew _)) g1, cell_later (Bl.qt (bel_new w2 _) (qt_drew _)) g2⟩))
          clear hK K
          (try simp only [Act.put, putL])
          refine wpAnyH_ready (rs := [5]) (by kernel_rfl) (by simp) ?_
          refine AllReadyH.cons (o := _) rfl (fun K hK => ?_) ?_
          · go_simp
            refine hK.out _ _ ?_ (fun hHeld => ?_)
            · (first | with_reducible exact ⟨cell_later b5 hHeld.1, cell_later b5 hHeld.2.1, cell_later b5 hHeld.2.2⟩ | with_reducible exact hHeld | with_reducible exact ⟨cell_set5 nk0 hHeld.1, cell_set5 nk0 hHeld.2.1, cell_set5 nk0 hHeld.2.2⟩ | with_reducible exact ⟨cell_set5 nk5 hHeld.1, cell_set5 nk5 hHeld.2.1, cell_set5 nk5 hHeld.2.2⟩ | with_reducible exact ⟨cell_later (bel_new w5 _) hHeld.1, cell_later (bel_new w5 _) hHeld.2.1, cell_later (bel_new w5 _) hHeld.2.2⟩ | with_reducible exact ⟨alloc_swap _ (Ne.symm nk5) hHeld.1, alloc_swap _ (Ne.symm nk5) hHeld.2.1, alloc_swap _ (Ne.symm nk5) hHeld.2.2⟩ | (exact ⟨cell_later (Bl.qt (bel_new w2 _) (qt_drew _)) g0, cell_later (Bl.qt (bel_new w2 _) (qt_drew _)) g1, cell_later (Bl.qt (bel_new w2 _) (qt_drew _)) g2⟩))
            clear hK K
            (try simp only [Act.put, putL])
            refine wpAnyH_done (by kernel_rfl) ?_ _
            go_wp2_with fail
            go_meet
            exact ⟨w5.heap.size, An, cn, rfl, hid ⟨Blk.new w5 28 [.int .i64 N, .int .i64 L, .int .i64 R, .slice An nh cn, .slice none 0 0], by omega⟩, hid ((own_more o5 HWL).alloc _), hid (own_isOffB o5 hgl4), hid (Bl.new (Bl.call (Bl.qt (Below.refl _ _) (qt_drew _)) b5) _)⟩
          exact AllReadyH.nil
        exact AllReadyH.nil
      refine AllReadyH.cons (o := _) rfl (fun K hK => ?_) ?_
      · go_simp
        refine hK.out _ _ ?_ (fun hHeld => ?_)
        · (first | with_reducible exact ⟨cell_later b5 hHeld.1, cell_later b5 hHeld.2.1, cell_later b5 hHeld.2.2⟩ | with_reducible exact hHeld | with_reducible exact ⟨cell_set5 nk0 hHeld.1, cell_set5 nk0 hHeld.2.1, cell_set5 nk0 hHeld.2.2⟩ | with_reducible exact ⟨cell_set5 nk5 hHeld.1, cell_set5 nk5 hHeld.2.1, cell_set5 nk5 hHeld.2.2⟩ | with_reducible exact ⟨cell_later (bel_new w5 _) hHeld.1, cell_later (bel_new w5 _) hHeld.2.1, cell_later (bel_new w5 _) hHeld.2.2⟩ | with_reducible exact ⟨alloc_swap _ (Ne.symm nk5) hHeld.1, alloc_swap _ (Ne.symm nk5) hHeld.2.1, alloc_swap _ (Ne.symm nk5) hHeld.2.2⟩ | (exact ⟨cell_later (Bl.qt (bel_new w2 _) (qt_drew _)) g0, cell_later (Bl.qt (bel_new w2 _) (qt_drew _)) g1, cell_later (Bl.qt (bel_new w2 _) (qt_drew _)) g2⟩))
        clear hK K
        (try simp only [Act.put, putL])
        refine wpAnyH_ready (rs := [3]) (by kernel_rfl) (by simp) ?_
        refine AllReadyH.cons (o := _) rfl (fun K hK => ?_) ?_
        · go_simp
          refine hK.out _ _ ?_ (fun hHeld => ?_)
          · (first | with_reducible exact ⟨cell_later b5 hHeld.1, cell_later b5 hHeld.2.1, cell_later b5 hHeld.2.2⟩ | with_reducible exact hHeld | with_reducible exact ⟨cell_set5 nk0 hHeld.1, cell_set5 nk0 hHeld.2.1, cell_set5 nk0 hHeld.2.2⟩ | with_reducible exact ⟨cell_set5 nk5 hHeld.1, cell_set5 nk5 hHeld.2.1, cell_set5 nk5 hHeld.2.2⟩ | with_reducible exact ⟨cell_later (bel_new w5 _) hHeld.1, cell_later (bel_new w5 _) hHeld.2.1, cell_later (bel_new w5 _) hHeld.2.2⟩ | with_reducible exact ⟨alloc_swap _ (Ne.symm nk5) hHeld.1, alloc_swap _ (Ne.symm nk5) hHeld.2.1, alloc_swap _ (Ne.symm nk5) hHeld.2.2⟩ | (exact ⟨cell_later (Bl.qt (bel_new w2 _) (qt_drew _)) g0, cell_later (Bl.qt (bel_new w2 _) (qt_drew _)) g1, cell_later (Bl.qt (bel_new w2 _) (qt_drew _)) g2⟩))
          clear hK K
          (try simp only [Act.put, putL])
          refine wpAnyH_ready (rs := [5]) (by kernel_rfl) (by simp) ?_
          refine AllReadyH.cons (o := _) rfl (fun K hK => ?_) ?_
          · go_simp
            refine hK.out _ _ ?_ (fun hHeld => ?_)
            · (first | with_reducible exact ⟨cell_later b5 hHeld.1, cell_later b5 hHeld.2.1, cell_later b5 hHeld.2.2⟩ | with_reducible exact hHeld | with_reducible exact ⟨cell_set5 nk0 hHeld.1, cell_set5 nk0 hHeld.2.1, cell_set5 nk0 hHeld.2.2⟩ | with_reducible exact ⟨cell_set5 nk5 hHeld.1, cell_set5 nk5 hHeld.2.1, cell_set5 nk5 hHeld.2.2⟩ | with_reducible exact ⟨cell_later (bel_new w5 _) hHeld.1, cell_later (bel_new w5 _) hHeld.2.1, cell_later (bel_new w5 _) hHeld.2.2⟩ | with_reducible exact ⟨alloc_swap _ (Ne.symm nk5) hHeld.1, alloc_swap _ (Ne.symm nk5) hHeld.2.1, alloc_swap _ (Ne.symm nk5) hHeld.2.2⟩ | (exact ⟨cell_later (Bl.qt (bel_new w2 _) (qt_drew _)) g0, cell_later (Bl.qt (bel_new w2 _) (qt_drew _)) g1, cell_later (Bl.qt (bel_new w2 _) (qt_drew _)) g2⟩))
            clear hK K
            (try simp only [Act.put, putL])
            refine wpAnyH_done (by kernel_rfl) ?_ _
            go_wp2_with fail
            go_meet
            exact ⟨w5.heap.size, An, cn, rfl, hid ⟨Blk.new w5 28 [.int .i64 N, .int .i64 L, .int .i64 R, .slice An nh cn, .slice none 0 0], by omega⟩, hid ((own_more o5 HWL).alloc _), hid (own_isOffB o5 hgl4), hid (Bl.new (Bl.call (Bl.qt (Below.refl _ _) (qt_drew _)) b5) _)⟩
          exact AllReadyH.nil
        exact AllReadyH.nil
      exact AllReadyH.nil
    refine AllReadyH.cons (o := _) rfl (fun K hK => ?_) ?_
    · go_simp
      refine hK.out _ _ ?_ (fun hHeld => ?_)
      · (first | with_reducible exact ⟨cell_later b5 hHeld.1, cell_later b5 hHeld.2.1, cell_later b5 hHeld.2.2⟩ | with_reducible exact hHeld | with_reducible exact ⟨cell_set5 nk0 hHeld.1, cell_set5 nk0 hHeld.2.1, cell_set5 nk0 hHeld.2.2⟩ | with_reducible exact ⟨cell_set5 nk5 hHeld.1, cell_set5 nk5 hHeld.2.1, cell_set5 nk5 hHeld.2.2⟩ | with_reducible exact ⟨cell_later (bel_new w5 _) hHeld.1, cell_later (bel_new w5 _) hHeld.2.1, cell_later (bel_new w5 _) hHeld.2.2⟩ | with_reducible exact ⟨alloc_swap _ (Ne.symm nk5) hHeld.1, alloc_swap _ (Ne.symm nk5) hHeld.2.1, alloc_swap _ (Ne.symm nk5) hHeld.2.2⟩ | (exact ⟨cell_later (Bl.qt (bel_new w2 _) (qt_drew _)) g0, cell_later (Bl.qt (bel_new w2 _) (qt_drew _)) g1, cell_later (Bl.qt (bel_new w2 _) (qt_drew _)) g2⟩))
      clear hK K
      (try simp only [Act.put, putL])
      refine wpAnyH_ready (rs := [2]) (by kernel_rfl) (by simp) ?_
      refine AllReadyH.cons (o := _) rfl (fun K hK => ?_) ?_
      · go_simp
        go_at_call 27
        refine (hclone_own _ nh _ hs _ ((S2.out.new _).cqt (qt_drew _)) (Nat.le_refl _) hr).mono ?_
        rintro e w5 ⟨An, cn, rfl, o5, b5⟩
        have hz5 := b5.size
        (try simp at hz5)
        have nk5 : KC ≠ w5.heap.size := by omega
        have DZ : Blk w5 w2.heap.size 28 [.int .i64 0, .int .i64 0, .int .i64 0, .slice none 0 0, .slice none 0 0] := ((Blk.new w2 28 [.int .i64 0, .int .i64 0, .int .i64 0, .slice none 0 0, .slice none 0 0]).on (qt_drew _).bel).on b5
        have HWL1 : w.heap.size ≤ (w2.alloc (.cells #[.int .i64 0, .int .i64 0, .int .i64 0, .slice none 0 0, .slice none 0 0] 28)).drew.heap.size := Nat.le_trans HWL (Bl.qt (bel_new w2 _) (qt_drew _)).size
        have HWL2 : w2.heap.size < (w2.alloc (.cells #[.int .i64 0, .int .i64 0, .int .i64 0, .slice none 0 0, .slice none 0 0] 28)).drew.heap.size := by show w2.heap.size < (w2.alloc _).heap.size; simp
        have hgl41 : K4 < (w2.alloc (.cells #[.int .i64 0, .int .i64 0, .int .i64 0, .slice none 0 0, .slice none 0 0] 28)).drew.heap.size := Nat.lt_trans hgl4 HWL2
        have z0 := DZ.cell 0
        have z1 := DZ.cell 1
        have z2 := DZ.cell 2
        have z3 := DZ.cell 3
        have z4 := DZ.cell 4
        have fz0 := DZ.frozen 0
        have fz1 := DZ.frozen 1
        have fz2 := DZ.frozen 2
        have fz3 := DZ.frozen 3
        have fz4 := DZ.frozen 4
        refine hK.out _ _ ?_ (fun hHeld => ?_)
        · (first | with_reducible exact ⟨cell_later b5 hHeld.1, cell_later b5 hHeld.2.1, cell_later b5 hHeld.2.2⟩ | with_reducible exact hHeld | with_reducible exact ⟨cell_set5 nk0 hHeld.1, cell_set5 nk0 hHeld.2.1, cell_set5 nk0 hHeld.2.2⟩ | with_reducible exact ⟨cell_set5 nk5 hHeld.1, cell_set5 nk5 hHeld.2.1, cell_set5 nk5 hHeld.2.2⟩ | with_reducible exact ⟨cell_later (bel_new w5 _) hHeld.1, cell_later (bel_new w5 _) hHeld.2.1, cell_later (bel_new w5 _) hHeld.2.2⟩ | with_reducible exact ⟨alloc_swap _ (Ne.symm nk5) hHeld.1, alloc_swap _ (Ne.symm nk5) hHeld.2.1, alloc_swap _ (Ne.symm nk5) hHeld.2.2⟩ | (exact ⟨cell_later (Bl.qt (bel_new w2 _) (qt_drew _)) g0, cell_later (Bl.qt (bel_new w2 _) (qt_drew _)) g1, cell_later (Bl.qt (bel_new w2 _) (qt_drew _)) g2⟩))
        clear hK K
        (try simp only [Act.put, putL])
        refine wpAnyH_ready (rs := [3]) (by kernel_rfl) (by simp) ?_
        refine AllReadyH.cons (o := _) rfl (fun K hK => ?_) ?_
        · go_simp
          refine hK.out _ _ ?_ (fun hHeld => ?_)
          · (first | with_reducible exact ⟨cell_later b5 hHeld.1, cell_later b5 hHeld.2.1, cell_later b5 hHeld.2.2⟩ | with_reducible exact hHeld | with_reducible exact ⟨cell_set5 nk0 hHeld.1, cell_set5 nk0 hHeld.2.1, cell_set5 nk0 hHeld.2.2⟩ | with_reducible exact ⟨cell_set5 nk5 hHeld.1, cell_set5 nk5 hHeld.2.1, cell_set5 nk5 hHeld.2.2⟩ | with_reducible exact ⟨cell_later (bel_new w5 _) hHeld.1, cell_later (bel_new w5 _) hHeld.2.1, cell_later (bel_new w5 _) hHeld.2.2⟩ | with_reducible exact ⟨alloc_swap _ (Ne.symm nk5) hHeld.1, alloc_swap _ (Ne.symm nk5) hHeld.2.1, alloc_swap _ (Ne.symm nk5) hHeld.2.2⟩ | (exact ⟨cell_later (Bl.qt (bel_new w2 _) (qt_drew _)) g0, cell_later (Bl.qt (bel_new w2 _) (qt_drew _)) g1, cell_later (Bl.qt (bel_new w2 _) (qt_drew _)) g2⟩))
          clear hK K
          (try simp only [Act.put, putL])
          refine wpAnyH_ready (rs := [5]) (by kernel_rfl) (by simp) ?_
          refine AllReadyH.cons (o := _) rfl (fun K hK => ?_) ?_
          · go_simp
            refine hK.out _ _ ?_ (fun hHeld => ?_)
            · (first | with_reducible exact ⟨cell_later b5 hHeld.1, cell_later b5 hHeld.2.1, cell_later b5 hHeld.2.2⟩ | with_reducible exact hHeld | with_reducible exact ⟨cell_set5 nk0 hHeld.1, cell_set5 nk0 hHeld.2.1, cell_set5 nk0 hHeld.2.2⟩ | with_reducible exact ⟨cell_set5 nk5 hHeld.1, cell_set5 nk5 hHeld.2.1, cell_set5 nk5 hHeld.2.2⟩ | with_reducible exact ⟨cell_later (bel_new w5 _) hHeld.1, cell_later (bel_new w5 _) hHeld.2.1, cell_later (bel_new w5 _) hHeld.2.2⟩ | with_reducible exact ⟨alloc_swap _ (Ne.symm nk5) hHeld.1, alloc_swap _ (Ne.symm nk5) hHeld.2.1, alloc_swap _ (Ne.symm nk5) hHeld.2.2⟩ | (exact ⟨cell_later (Bl.qt (bel_new w2 _) (qt_drew _)) g0, cell_later (Bl.qt (bel_new w2 _) (qt_drew _)) g1, cell_later (Bl.qt (bel_new w2 _) (qt_drew _)) g2⟩))
            clear hK K
            (try simp only [Act.put, putL])
            refine wpAnyH_done (by kernel_rfl) ?_ _
            go_wp2_with fail
            go_meet
            exact ⟨w2.heap.size, An, cn, rfl, hid ⟨put5_blk DZ, Nat.le_refl _⟩, hid (own_put5 (own_more o5 HWL1) HWL2 o5), hid (own_isOffB o5 hgl41), hid (put5_bel (Bl.call (Bl.qt (bel_new w2 _) (qt_drew _)) b5) (Nat.le_refl _))⟩
          exact AllReadyH.nil
        exact AllReadyH.nil
      exact AllReadyH.nil
    exact AllReadyH.nil
  case rest =>
    obtain ⟨K6, An, cn, rfl, HD6, HO, OFF4, HB6⟩ := hcut
    have B6 := HB6.out
    have NE4 : Hid (K4 ≠ K6) := hid (by have := D4.out.lt; have := HD6.out.2; omega)
    replace D4 := hid (D4.out.on B6)
    replace HB := hid (Bl.call HB.out B6)
    have D6 := hid HD6.out.1
    clear HD6 HB6 B6 DC S2
    have n0 := D6.out.cell 0
    have n1 := D6.out.cell 1
    have n2 := D6.out.cell 2
    have n3 := D6.out.cell 3
    have n4 := D6.out.cell 4
    have SHH := hid (Sl.of_own HO.out)
    go_wp2_with fail
    refine (gr_any (N := N) (L := L) (R := R) (hs := hz hs) (es := []) (vh := .slice An nh cn) (ve := .slice none 0 0) (nh := nh) (ne := 0) (by rw [hcz_hz]; exact SHH.out) (Sl.none_ _ _ _) (by omega) b HB0.out).mono ?_; rintro e w7 ⟨rfl, b7⟩
    clear n0 n1 n2 n3 n4
    replace D4 := hid (D4.out.on b7)
    replace D6 := hid (D6.out.on b7)
    have HO7 := hid (own_below HO.out b7)
    replace HB := hid (Bl.call HB.out b7)
    clear b7 SHH
    cases b with
    | true =>
      have g0 := D6.out.cell 0
      have g1 := D6.out.cell 1
      have g2 := D6.out.cell 2
      have g3 := D6.out.cell 3
      have g4 := D6.out.cell 4
      have f0 := D4.out.frozen 0
      have f1 := D4.out.frozen 1
      have f2 := D4.out.frozen 2
      have f3 := D4.out.frozen 3
      have f4 := D4.out.frozen 4
      have p0 := D4.out.cell 0
      have p1 := D4.out.cell 1
      have p2 := D4.out.cell 2
      have p3 := D4.out.cell 3
      have p4 := D4.out.cell 4
      obtain ⟨w99, hw⟩ : ∃ z, z = (((((w7.setCell ⟨K4, 0, none⟩ (.int .i64 N)).setCell ⟨K4, 1, none⟩ (.int .i64 L)).setCell ⟨K4, 2, none⟩ (.int .i64 R)).setCell ⟨K4, 3, none⟩ (.slice An nh cn)).setCell ⟨K4, 4, none⟩ (.slice none 0 0)) := ⟨_, rfl⟩
      have D8 : Hid (Blk w99 K4 28 [.int .i64 N, .int .i64 L, .int .i64 R, .slice An nh cn, .slice none 0 0]) := hid (by rw [hw]; exact put5_blk D4.out)
      have HB8 : Hid (Below w.heap.size w w99) := hid (by rw [hw]; exact put5_bel HB.out LO4.out)
      have HO8 := hid (own_off5 HO7.out OFF4.out (.int .i64 N) (.int .i64 L) (.int .i64 R) (.slice An nh cn) (.slice none 0 0))
      rw [← hw] at HO8
      have HW8 := hid hw
      clear hw
      go_wp2
      rw [← HW8.out]
      clear f0 f1 f2 f3 f4
      clear p0 p1 p2 p3 p4
      clear g0 g1 g2 g3 g4
      have e0 := D8.out.cell 0
      have e1 := D8.out.cell 1
      have e2 := D8.out.cell 2
      have e3 := D8.out.cell 3
      have e4 := D8.out.cell 4
      exact bodyPost_ret (v := .tuple #[.agg #[.int .i64 N, .int .i64 L, .int .i64 R, .slice An nh cn, .slice none 0 0], .int .i64 0]) (by simp [results, Tryz.results13, go_sem, e0, e1, e2, e3, e4]) rfl (by unfold NewPost; rw [if_pos rfl, HNH.out]; exact ⟨_, _, rfl, HO8.out, HB8.out⟩)
    | false =>
      have f0 := D4.out.frozen 0
      have f1 := D4.out.frozen 1
      have f2 := D4.out.frozen 2
      have f3 := D4.out.frozen 3
      have f4 := D4.out.frozen 4
      have p0 := D4.out.cell 0
      have p1 := D4.out.cell 1
      have p2 := D4.out.cell 2
      have p3 := D4.out.cell 3
      have p4 := D4.out.cell 4
      obtain ⟨w99, hw⟩ : ∃ z, z = (((((w7.setCell ⟨K4, 0, none⟩ (.int .i64 0)).setCell ⟨K4, 1, none⟩ (.int .i64 0)).setCell ⟨K4, 2, none⟩ (.int .i64 0)).setCell ⟨K4, 3, none⟩ (.slice none 0 0)).setCell ⟨K4, 4, none⟩ (.slice none 0 0)) := ⟨_, rfl⟩
      have D8 : Hid (Blk w99 K4 28 [.int .i64 0, .int .i64 0, .int .i64 0, .slice none 0 0, .slice none 0 0]) := hid (by rw [hw]; exact put5_blk D4.out)
      have HB8 : Hid (Below w.heap.size w w99) := hid (by rw [hw]; exact put5_bel HB.out LO4.out)
      have HO8 := hid (own_off5 HO7.out OFF4.out (.int .i64 0) (.int .i64 0) (.int .i64 0) (.slice none 0 0) (.slice none 0 0))
      rw [← hw] at HO8
      have HW8 := hid hw
      clear hw
      go_wp2
      rw [← HW8.out]
      clear f0 f1 f2 f3 f4
      clear p0 p1 p2 p3 p4
      have e0 := D8.out.cell 0
      have e1 := D8.out.cell 1
      have e2 := D8.out.cell 2
      have e3 := D8.out.cell 3
      have e4 := D8.out.cell 4
      exact bodyPost_ret (v := .tuple #[.agg #[.int .i64 0, .int .i64 0, .int .i64 0, .slice none 0 0, .slice none 0 0], .int .i64 1]) (by simp [results, Tryz.results13, go_sem, e0, e1, e2, e3, e4]) rfl (by unfold NewPost; rw [if_neg (by decide)]; exact ⟨rfl, HB8.out⟩)
/-- The cells of acts. -/
def atc (l : List (Bool × Int × Int)) : List Value := l.flatMap fun e => [.bool e.1, .int .i64 e.2.1, .int .i64 e.2.2]
theorem len_atc (l : List (Bool × Int × Int)) : (atc l).length = l.length * 3 := by
  induction l with
  | nil => rfl
  | cons e l ih => simp [atc] at ih ⊢; omega
theorem atc_at (l : List (Bool × Int × Int)) (k : Nat) (h : k < l.length) :
    (atc l)[k * 3]? = some (.bool l[k].1) ∧ (atc l)[k * 3 + 1]? = some (.int .i64 l[k].2.1) ∧ (atc l)[k * 3 + 2]? = some (.int .i64 l[k].2.2) := by
  induction l generalizing k with
  | nil => simp at h
  | cons e l ih =>
    cases k with
    | zero => simp [atc]
    | succ k =>
      have := ih k (by simpa using h)
      simp only [atc, List.flatMap_cons, List.getElem_cons_succ] at this ⊢
      refine ⟨?_, ?_, ?_⟩
      · rw [show (k + 1) * 3 = k * 3 + 3 by omega, List.getElem?_append_right (by simp)]; simpa using this.1
      · rw [show (k + 1) * 3 + 1 = k * 3 + 1 + 3 by omega, List.getElem?_append_right (by simp)]; simpa using this.2.1
      · rw [show (k + 1) * 3 + 2 = k * 3 + 2 + 3 by omega, List.getElem?_append_right (by simp)]; simpa using this.2.2
theorem atc_cell {w : World} {b o : Nat} {l : List (Bool × Int × Int)} (h : ∀ j u, (atc l)[j]? = some u → w.cell? ⟨b, o + j, none⟩ = some u) {k : Nat} (hk : k < l.length) :
    w.cell? ⟨b, o + k * 3, none⟩ = some (.bool l[k].1) ∧ w.cell? ⟨b, o + k * 3 + 1, none⟩ = some (.int .i64 l[k].2.1) ∧ w.cell? ⟨b, o + k * 3 + 2, none⟩ = some (.int .i64 l[k].2.2) := by
  have e := atc_at l k hk
  exact ⟨h _ _ e.1, by rw [Nat.add_assoc]; exact h _ _ e.2.1, by rw [Nat.add_assoc]; exact h _ _ e.2.2⟩
/-- Whether a graph is small. -/
def FewOk (N L R : Int) : Prop := (1 ≤ N ∧ N ≤ 12) ∧ (1 ≤ L ∧ L ≤ 4) ∧ (1 ≤ R ∧ R ≤ 3)
def few (N L R : Int) (m : Nat) : Int := if 1 ≤ N ∧ 1 ≤ L ∧ 1 ≤ R ∧ N ≤ 12 ∧ L ≤ 4 ∧ R ≤ 3 then ((min m 30 : Nat) : Int) else -1
set_option maxHeartbeats 8000000 in
set_option maxRecDepth 100000 in
theorem few_is {N L R : Int} {va : Value} {m : Nat} {acts : List (Bool × Int × Int)} {w : World} (hs : Sl w w.heap.size 3 va m (atc acts)) :
    Calls Tryz.prog 12 #[.agg #[.int .i64 N, .int .i64 L, .int .i64 R], va] w fun e w' => e = .returned (.int .i64 (few N L R m)) ∧ Below w.heap.size w w' := by
  obtain ⟨A, c, rfl, hnc, hcm, hll, hx⟩ := hs
  have hm63 : m ≤ 9223372036854775807 := by unfold maxLen at hcm; omega
  have HB := hid (bel_new w (.cells #[.int .i64 N, .int .i64 L, .int .i64 R] 23))
  clear hx hll hcm hnc
  by_cases c0 : 1 ≤ N
  case neg =>
    have HF : Hid (few N L R m = -1) := hid (by unfold few; rw [if_neg (by intro h; exact c0 h.1)])
    have n0 : N < 1 := by omega
    go_enter Tryz.func12, Tryz.ntmps12
    go_wp2
    go_ret
    exact ⟨by rw [HF.out]; rfl, HB.out⟩
  case pos =>
  have n0 : ¬ N < 1 := by omega
  by_cases c1 : 1 ≤ L
  case neg =>
    have HF : Hid (few N L R m = -1) := hid (by unfold few; rw [if_neg (by intro h; exact c1 h.2.1)])
    have n1 : L < 1 := by omega
    go_enter Tryz.func12, Tryz.ntmps12
    go_wp2
    go_ret
    exact ⟨by rw [HF.out]; rfl, HB.out⟩
  case pos =>
  have n1 : ¬ L < 1 := by omega
  by_cases c2 : 1 ≤ R
  case neg =>
    have HF : Hid (few N L R m = -1) := hid (by unfold few; rw [if_neg (by intro h; exact c2 h.2.2.1)])
    have n2 : R < 1 := by omega
    go_enter Tryz.func12, Tryz.ntmps12
    go_wp2
    go_ret
    exact ⟨by rw [HF.out]; rfl, HB.out⟩
  case pos =>
  have n2 : ¬ R < 1 := by omega
  by_cases c3 : N ≤ 12
  case neg =>
    have HF : Hid (few N L R m = -1) := hid (by unfold few; rw [if_neg (by intro h; exact c3 h.2.2.2.1)])
    have n3 : 12 < N := by omega
    go_enter Tryz.func12, Tryz.ntmps12
    go_wp2
    go_ret
    exact ⟨by rw [HF.out]; rfl, HB.out⟩
  case pos =>
  have n3 : ¬ 12 < N := by omega
  by_cases c4 : L ≤ 4
  case neg =>
    have HF : Hid (few N L R m = -1) := hid (by unfold few; rw [if_neg (by intro h; exact c4 h.2.2.2.2.1)])
    have n4 : 4 < L := by omega
    go_enter Tryz.func12, Tryz.ntmps12
    go_wp2
    go_ret
    exact ⟨by rw [HF.out]; rfl, HB.out⟩
  case pos =>
  have n4 : ¬ 4 < L := by omega
  by_cases c5 : R ≤ 3
  case neg =>
    have HF : Hid (few N L R m = -1) := hid (by unfold few; rw [if_neg (by intro h; exact c5 h.2.2.2.2.2)])
    have n5 : 3 < R := by omega
    go_enter Tryz.func12, Tryz.ntmps12
    go_wp2
    go_ret
    exact ⟨by rw [HF.out]; rfl, HB.out⟩
  case pos =>
  have n5 : ¬ 3 < R := by omega
  by_cases h30 : m ≤ 30
  case pos =>
    have HF : Hid (few N L R m = (m : Int)) := hid (by unfold few; rw [if_pos ⟨c0, c1, c2, c3, c4, c5⟩, Nat.min_eq_left h30])
    have a1 : (m : Int) ≤ 30 := by omega
    have a2 : ¬ (30 : Int) < (m : Int) := by omega
    go_enter Tryz.func12, Tryz.ntmps12
    go_wp2
    go_ret
    exact ⟨by rw [HF.out]; rfl, HB.out⟩
  case neg =>
    have HF : Hid (few N L R m = 30) := hid (by unfold few; rw [if_pos ⟨c0, c1, c2, c3, c4, c5⟩, Nat.min_eq_right (by omega)]; rfl)
    have a1 : ¬ (m : Int) ≤ 30 := by omega
    have a2 : (30 : Int) < (m : Int) := by omega
    go_enter Tryz.func12, Tryz.ntmps12
    go_wp2
    go_ret
    exact ⟨by rw [HF.out]; rfl, HB.out⟩
theorem Tacts : SlT 25 52 (.agg #[.bool false, .int .i64 0, .int .i64 0]) 3 24 := SlT.mk Tryz.underlying25 (by kernel_rfl) rfl (by decide) (by decide)
theorem atc_take (l : List (Bool × Int × Int)) (k : Nat) : (atc l).take (k * 3) = atc (l.take k) := by
  induction k generalizing l with
  | zero => simp [atc]
  | succ k ih =>
    cases l with
    | nil => simp [atc]
    | cons a l =>
      rw [List.take_succ_cons, show (k + 1) * 3 = k * 3 + 1 + 1 + 1 by omega]
      have := ih l
      simp [atc] at this ⊢
      exact this
/-- The graph's edges behind one act, and behind some. -/
def actF (n L : Nat) (S : Nat → List (Int × Int) → Option Nat) (es : List (Int × Int × Int)) (a : Bool × Int × Int) : List (Int × Int × Int) := if a.1 then Tp.delF n L S es a.2.1 a.2.2 else Tp.insF n L S es a.2.1 a.2.2
def actsF (n L : Nat) (S : Nat → List (Int × Int) → Option Nat) (l : List (Bool × Int × Int)) : List (Int × Int × Int) := l.foldl (actF n L S) []
theorem acts_next (n L : Nat) (S : Nat → List (Int × Int) → Option Nat) {l : List (Bool × Int × Int)} {i : Nat} (h : i < l.length) : actsF n L S (l.take (i + 1)) = actF n L S (actsF n L S (l.take i)) l[i] := by
  unfold actsF
  rw [List.take_succ_eq_append_getElem h, List.foldl_append]; rfl
theorem len_ins {n L R : Nat} {hs : List (Nat × Nat)} {es : List (Int × Int × Int)} (hp : GP n L R hs es) {S : Nat → List (Int × Int) → Option Nat} (hS : Tp.SOk S) (hel : es.length ≤ 999) (u v : Int) : GP n L R hs (Tp.insF n L S es u v) ∧ (Tp.insF n L S es u v).length ≤ es.length + 1 := by
  unfold Tp.insF
  split
  · rename_i hc
    have hg := hp.add hc.1 hc.2.1 hc.2.2.1 hc.2.2.2 hel
    have hl := hp.l2
    refine ⟨hg.mend hc.1 hc.2.1 hS L (Nat.le_refl _), ?_⟩
    rw [uv_len (Tp.mend_uv hg.gd (by omega) hS hc.1 hc.2.1 L (Nat.le_refl _))]
    unfold Tp.addF
    have := congrArg List.length (List.takeWhile_append_dropWhile (p := fun e => Tp.lsB e (Tp.newE u v)) (l := es))
    rw [List.length_append] at this ⊢
    rw [List.length_cons]; omega
  · exact ⟨hp, by omega⟩
theorem len_del {n L R : Nat} {hs : List (Nat × Nat)} {es : List (Int × Int × Int)} (hp : GP n L R hs es) {S : Nat → List (Int × Int) → Option Nat} (hS : Tp.SOk S) (u v : Int) : GP n L R hs (Tp.delF n L S es u v) ∧ (Tp.delF n L S es u v).length ≤ es.length := by
  unfold Tp.delF
  split
  · rename_i hc
    cases Tp.fiP (Pt.uv es) u v with
    | none => exact ⟨hp, Nat.le_refl _⟩
    | some i =>
      have hg := hp.del i
      have hl := hp.l2
      refine ⟨hg.mend hc.1 hc.2 hS L (Nat.le_refl _), ?_⟩
      show (Tp.mendF n L S (es.eraseIdx i) u v L).length ≤ es.length
      rw [uv_len (Tp.mend_uv hg.gd (by omega) hS hc.1 hc.2 L (Nat.le_refl _))]
      exact (List.eraseIdx_sublist es i).length_le
  · exact ⟨hp, Nat.le_refl _⟩
theorem gp_acts {n L R : Nat} {hs : List (Nat × Nat)} (h0 : GP n L R hs []) {S : Nat → List (Int × Int) → Option Nat} (hS : Tp.SOk S) : ∀ l : List (Bool × Int × Int), l.length ≤ 900 → GP n L R hs (actsF n L S l) ∧ (actsF n L S l).length ≤ l.length := by
  refine Pt.snoc_ind ?_ ?_
  · intro _; exact ⟨h0, Nat.le_refl _⟩
  · intro l a ih hl
    rw [List.length_append] at hl
    simp at hl
    obtain ⟨g, hlen⟩ := ih (by omega)
    have e : actsF n L S (l ++ [a]) = actF n L S (actsF n L S l) a := by unfold actsF; rw [List.foldl_append]; rfl
    rw [e, List.length_append]
    unfold actF
    split
    · have := len_del g hS a.2.1 a.2.2
      exact ⟨this.1, by simp; omega⟩
    · have := len_ins g hS (by omega) a.2.1 a.2.2
      exact ⟨this.1, by simp; omega⟩
/-- A graph without edges may be, if few allows it and New does. -/
theorem gp_new {N L R : Int} {hs : List (Nat × Nat)} (hf : FewOk N L R) (hg : GR N L R (hz hs) []) : GP N.toNat L.toNat R.toNat hs [] := by
  obtain ⟨⟨a1, a2⟩, ⟨b1, b2⟩, c1, c2⟩ := hf
  obtain ⟨h1, h2, h3, _⟩ := hg
  refine ⟨by omega, by omega, by omega, by omega, by omega, by omega, ?_, ?_, Tp.gd_nil (by omega), by simp⟩
  · have e : ((L.toNat * R.toNat : Nat) : Int) = L * R := by rw [Int.natCast_mul, Int.toNat_of_nonneg (by omega), Int.toNat_of_nonneg (by omega)]
    have : (hz hs).length = hs.length := by simp [hz]
    rw [this] at h2
    omega
  · intro h hh
    obtain ⟨j, hj, rfl⟩ := List.mem_iff_getElem.1 hh
    have := h3 j (by simpa [hz] using hj) (by simpa [hz] using hj)
    simp only [hz, List.getElem_map] at this
    omega
theorem few_neg {N L R : Int} {m : Nat} (h : ¬ FewOk N L R) : few N L R m = -1 := by
  unfold few; rw [if_neg]
  intro q; exact h ⟨⟨q.1, q.2.2.2.1⟩, ⟨q.2.1, q.2.2.2.2.1⟩, q.2.2.1, q.2.2.2.2.2⟩
theorem few_pos {N L R : Int} {m : Nat} (h : FewOk N L R) : few N L R m = ((min m 30 : Nat) : Int) := by
  unfold few; rw [if_pos ⟨h.1.1, h.2.1.1, h.2.2.1, h.1.2, h.2.1.2, h.2.2.2⟩]
def BhPost (n L R : Nat) (hs : List (Nat × Nat)) (r : Option (List (Int × Int × Int))) (w : World) (e : Ending) (w' : World) : Prop :=
  match r with
  | none => e = .returned (.tuple #[.agg #[.int .i64 0, .int .i64 0, .int .i64 0, .slice none 0 0, .slice none 0 0], .slice none 0 0, .bool false]) ∧ Below w.heap.size w w'
  | some es => ∃ vh ve va, e = .returned (.tuple #[.agg #[.int .i64 (n : Int), .int .i64 (L : Int), .int .i64 (R : Int), vh, ve], va, .bool true]) ∧ GM w' vh ve hs es ∧ Below w.heap.size w w'
set_option maxHeartbeats 32000000 in
set_option maxRecDepth 100000 in
theorem behind_no {N L R : Int} {vh va : Value} {m : Nat} {hs : List (Nat × Nat)} {acts : List (Bool × Int × Int)} {w : World} (h1 : Sl w w.heap.size 2 vh hs.length (hcs hs)) (hr : hs.length ≤ 8796093022208) (h2 : Sl w w.heap.size 3 va m (atc acts)) (hno : ¬ FewOk N L R ∨ ¬ GR N L R (hz hs) []) :
    Calls Tryz.prog 5 #[.agg #[.int .i64 N, .int .i64 L, .int .i64 R], vh, va] w (BhPost 0 0 0 hs none w) := by
  have SH := hid h1
  have SA := hid h2
  have SA0 := hid h2
  have HR := hid hr
  obtain ⟨nh, hnh⟩ : ∃ k, k = hs.length := ⟨_, rfl⟩
  obtain ⟨A1, c1, hv1, _, _, _, _⟩ := id h1
  obtain ⟨A2, c2, hv2, hmc, hcm, _, _⟩ := id h2
  subst hv1 hv2
  clear hnh
  obtain ⟨w1, hw1⟩ : ∃ W, W = w.alloc (.cells #[.int .i64 N, .int .i64 L, .int .i64 R] 23) := ⟨_, rfl⟩
  obtain ⟨w2, hw2⟩ : ∃ W, W = w1.alloc (.cells #[.int .i64 0, .int .i64 0, .int .i64 0, .slice none 0 0, .slice none 0 0] 28) := ⟨_, rfl⟩
  obtain ⟨KC, hKC⟩ : ∃ K, K = w.heap.size := ⟨_, rfl⟩
  obtain ⟨K6, hK6⟩ : ∃ K, K = KC + 1 := ⟨_, rfl⟩
  have hsz1 : w1.heap.size = KC + 1 := by rw [hw1, hKC]; simp
  have DC : Hid (Blk w2 KC 23 [.int .i64 N, .int .i64 L, .int .i64 R]) := hid (by rw [hw2, hw1, hKC]; exact (Blk.new _ _ _).alloc _)
  have D6 : Hid (Blk w2 K6 28 [.int .i64 0, .int .i64 0, .int .i64 0, .slice none 0 0, .slice none 0 0]) := hid (by rw [hw2, hK6, ← hsz1]; exact Blk.new _ _ _)
  have HB : Hid (Below w.heap.size w w2) := hid (by rw [hw2, hw1]; exact Bl.new (bel_new _ _) _)
  replace SH : Hid (Sl w2 w2.heap.size 2 (.slice A1 hs.length c1) hs.length (hcs hs)) := hid (by rw [hw2, hw1]; exact (SH.out.new _).new _)
  replace SA : Hid (Sl w2 w2.heap.size 3 (.slice A2 m c2) m (atc acts)) := hid (by rw [hw2, hw1]; exact (SA.out.new _).new _)
  have LO6 : Hid (w.heap.size ≤ K6) := hid (by omega)
  have LOC : Hid (w.heap.size ≤ KC) := hid (by omega)
  have HW1 := hid hw1
  have HW2 := hid hw2
  have HKC := hid hKC
  have HK6 := hid hK6
  clear hw1 hw2 hKC hK6 hsz1 hr h1 h2
  by_cases hg : GR N L R (hz hs) []
  case pos =>
    have hf : ¬ FewOk N L R := fun q => (hno.elim (fun h => h q) (fun h => h hg))
    have hfe : few N L R m = -1 := few_neg hf
    have HG := hid hg
    clear hno hf hg
    go_enter Tryz.func5, Tryz.ntmps5
    go_upto_region 1 with (fail)
    rw [← HW1.out, ← HKC.out, ← HK6.out, ← HW2.out]
    have n0 := DC.out.cell 0
    have n1 := DC.out.cell 1
    have n2 := DC.out.cell 2
    go_wp2_with fail
    refine (few_is SA.out).mono ?_; rintro e w3 ⟨rfl, b3⟩
    clear n0 n1 n2
    replace DC := hid (DC.out.on b3)
    replace D6 := hid (D6.out.on b3)
    replace SH := hid (SH.out.call b3)
    replace SA := hid (SA.out.call b3)
    replace HB := hid (Bl.call HB.out b3)
    clear b3
    have n0 := DC.out.cell 0
    have n1 := DC.out.cell 1
    have n2 := DC.out.cell 2
    go_wp2_with fail
    refine (tnew_is SH.out HR.out true ⟨fun _ => rfl, fun _ => HG.out⟩).mono ?_; intro e w4 hpost
    clear n0 n1 n2
    unfold NewPost at hpost
    rw [if_pos rfl] at hpost
    obtain ⟨An, cn, rfl, o4, b4⟩ := hpost
    replace DC := hid (DC.out.on b4)
    replace D6 := hid (D6.out.on b4)
    replace SH := hid (SH.out.call b4)
    replace SA := hid (SA.out.call b4)
    replace HB := hid (Bl.call HB.out b4)
    have bz := bel_new w4 (.cells #[.int .i64 N, .int .i64 L, .int .i64 R, .slice An hs.length cn, .slice none 0 0] 28)
    obtain ⟨w5, hw5⟩ : ∃ W, W = w4.alloc (.cells #[.int .i64 N, .int .i64 L, .int .i64 R, .slice An hs.length cn, .slice none 0 0] 28) := ⟨_, rfl⟩
    obtain ⟨K10, hK10⟩ : ∃ K, K = w4.heap.size := ⟨_, rfl⟩
    have D10 : Hid (Blk w5 K10 28 [.int .i64 N, .int .i64 L, .int .i64 R, .slice An hs.length cn, .slice none 0 0]) := hid (by rw [hw5, hK10]; exact Blk.new _ _ _)
    rw [← hw5] at bz
    replace DC := hid (DC.out.on bz)
    replace D6 := hid (D6.out.on bz)
    replace SH := hid (SH.out.call bz)
    replace SA := hid (SA.out.call bz)
    replace HB := hid (Bl.call HB.out bz)
    have HW5 := hid hw5
    have HK10 := hid hK10
    clear bz b4 hw5 hK10
    go_upto_region 4 with (fail)
    rw [← HW5.out]
    have f0 := D6.out.frozen 0
    have f1 := D6.out.frozen 1
    have f2 := D6.out.frozen 2
    have f3 := D6.out.frozen 3
    have f4 := D6.out.frozen 4
    have p0 := D6.out.cell 0
    have p1 := D6.out.cell 1
    have p2 := D6.out.cell 2
    have p3 := D6.out.cell 3
    have p4 := D6.out.cell 4
    obtain ⟨w99, hw⟩ : ∃ z, z = (((((w5.setCell ⟨K6, 0, none⟩ (.int .i64 0)).setCell ⟨K6, 1, none⟩ (.int .i64 0)).setCell ⟨K6, 2, none⟩ (.int .i64 0)).setCell ⟨K6, 3, none⟩ (.slice none 0 0)).setCell ⟨K6, 4, none⟩ (.slice none 0 0)) := ⟨_, rfl⟩
    have D8 : Hid (Blk w99 K6 28 [.int .i64 0, .int .i64 0, .int .i64 0, .slice none 0 0, .slice none 0 0]) := hid (by rw [hw]; exact put5_blk D6.out)
    have HB8 : Hid (Below w.heap.size w w99) := hid (by rw [hw]; exact put5_bel HB.out LO6.out)
    have HW8 := hid hw
    clear hw
    go_wp2
    rw [← HW8.out]
    clear f0 f1 f2 f3 f4
    clear p0 p1 p2 p3 p4
    have e0 := D8.out.cell 0
    have e1 := D8.out.cell 1
    have e2 := D8.out.cell 2
    have e3 := D8.out.cell 3
    have e4 := D8.out.cell 4
    exact bodyPost_ret (v := .tuple #[.agg #[.int .i64 0, .int .i64 0, .int .i64 0, .slice none 0 0, .slice none 0 0], .slice none 0 0, .bool false]) (by simp [results, Tryz.results5, go_sem, e0, e1, e2, e3, e4]) rfl ⟨rfl, HB8.out⟩
  case neg =>
    have HG := hid hg
    clear hno hg
    by_cases hf : FewOk N L R
    case neg =>
      have hfe : few N L R m = -1 := few_neg hf
      clear hf
      go_enter Tryz.func5, Tryz.ntmps5
      go_upto_region 1 with (fail)
      rw [← HW1.out, ← HKC.out, ← HK6.out, ← HW2.out]
      have n0 := DC.out.cell 0
      have n1 := DC.out.cell 1
      have n2 := DC.out.cell 2
      go_wp2_with fail
      refine (few_is SA.out).mono ?_; rintro e w3 ⟨rfl, b3⟩
      clear n0 n1 n2
      replace DC := hid (DC.out.on b3)
      replace D6 := hid (D6.out.on b3)
      replace SH := hid (SH.out.call b3)
      replace SA := hid (SA.out.call b3)
      replace HB := hid (Bl.call HB.out b3)
      clear b3
      have n0 := DC.out.cell 0
      have n1 := DC.out.cell 1
      have n2 := DC.out.cell 2
      go_wp2_with fail
      refine (tnew_is SH.out HR.out false ⟨fun q => absurd q HG.out, fun q => by cases q⟩).mono ?_; intro e w4 hpost
      clear n0 n1 n2
      unfold NewPost at hpost
      rw [if_neg (by decide)] at hpost
      obtain ⟨rfl, b4⟩ := hpost
      replace DC := hid (DC.out.on b4)
      replace D6 := hid (D6.out.on b4)
      replace SH := hid (SH.out.call b4)
      replace SA := hid (SA.out.call b4)
      replace HB := hid (Bl.call HB.out b4)
      have bz := bel_new w4 (.cells #[.int .i64 0, .int .i64 0, .int .i64 0, .slice none 0 0, .slice none 0 0] 28)
      obtain ⟨w5, hw5⟩ : ∃ W, W = w4.alloc (.cells #[.int .i64 0, .int .i64 0, .int .i64 0, .slice none 0 0, .slice none 0 0] 28) := ⟨_, rfl⟩
      obtain ⟨K10, hK10⟩ : ∃ K, K = w4.heap.size := ⟨_, rfl⟩
      have D10 : Hid (Blk w5 K10 28 [.int .i64 0, .int .i64 0, .int .i64 0, .slice none 0 0, .slice none 0 0]) := hid (by rw [hw5, hK10]; exact Blk.new _ _ _)
      rw [← hw5] at bz
      replace DC := hid (DC.out.on bz)
      replace D6 := hid (D6.out.on bz)
      replace SH := hid (SH.out.call bz)
      replace SA := hid (SA.out.call bz)
      replace HB := hid (Bl.call HB.out bz)
      have HW5 := hid hw5
      have HK10 := hid hK10
      clear bz b4 hw5 hK10
      go_upto_region 4 with (fail)
      rw [← HW5.out]
      have f0 := D6.out.frozen 0
      have f1 := D6.out.frozen 1
      have f2 := D6.out.frozen 2
      have f3 := D6.out.frozen 3
      have f4 := D6.out.frozen 4
      have p0 := D6.out.cell 0
      have p1 := D6.out.cell 1
      have p2 := D6.out.cell 2
      have p3 := D6.out.cell 3
      have p4 := D6.out.cell 4
      obtain ⟨w99, hw⟩ : ∃ z, z = (((((w5.setCell ⟨K6, 0, none⟩ (.int .i64 0)).setCell ⟨K6, 1, none⟩ (.int .i64 0)).setCell ⟨K6, 2, none⟩ (.int .i64 0)).setCell ⟨K6, 3, none⟩ (.slice none 0 0)).setCell ⟨K6, 4, none⟩ (.slice none 0 0)) := ⟨_, rfl⟩
      have D8 : Hid (Blk w99 K6 28 [.int .i64 0, .int .i64 0, .int .i64 0, .slice none 0 0, .slice none 0 0]) := hid (by rw [hw]; exact put5_blk D6.out)
      have HB8 : Hid (Below w.heap.size w w99) := hid (by rw [hw]; exact put5_bel HB.out LO6.out)
      have HW8 := hid hw
      clear hw
      go_wp2
      rw [← HW8.out]
      clear f0 f1 f2 f3 f4
      clear p0 p1 p2 p3 p4
      have e0 := D8.out.cell 0
      have e1 := D8.out.cell 1
      have e2 := D8.out.cell 2
      have e3 := D8.out.cell 3
      have e4 := D8.out.cell 4
      exact bodyPost_ret (v := .tuple #[.agg #[.int .i64 0, .int .i64 0, .int .i64 0, .slice none 0 0, .slice none 0 0], .slice none 0 0, .bool false]) (by simp [results, Tryz.results5, go_sem, e0, e1, e2, e3, e4]) rfl ⟨rfl, HB8.out⟩
    case pos =>
      have hfe : few N L R m = ((min m 30 : Nat) : Int) := few_pos hf
      obtain ⟨nk, hnk⟩ : ∃ k, k = min m 30 := ⟨_, rfl⟩
      rw [← hnk] at hfe
      have hnk0 : ¬ (nk : Int) < 0 := by omega
      clear hf hnk
      go_enter Tryz.func5, Tryz.ntmps5
      go_upto_region 1 with (fail)
      rw [← HW1.out, ← HKC.out, ← HK6.out, ← HW2.out]
      have n0 := DC.out.cell 0
      have n1 := DC.out.cell 1
      have n2 := DC.out.cell 2
      go_wp2_with fail
      refine (few_is SA.out).mono ?_; rintro e w3 ⟨rfl, b3⟩
      clear n0 n1 n2
      replace DC := hid (DC.out.on b3)
      replace D6 := hid (D6.out.on b3)
      replace SH := hid (SH.out.call b3)
      replace SA := hid (SA.out.call b3)
      replace HB := hid (Bl.call HB.out b3)
      clear b3
      have n0 := DC.out.cell 0
      have n1 := DC.out.cell 1
      have n2 := DC.out.cell 2
      go_wp2_with fail
      refine (tnew_is SH.out HR.out false ⟨fun q => absurd q HG.out, fun q => by cases q⟩).mono ?_; intro e w4 hpost
      clear n0 n1 n2
      unfold NewPost at hpost
      rw [if_neg (by decide)] at hpost
      obtain ⟨rfl, b4⟩ := hpost
      replace DC := hid (DC.out.on b4)
      replace D6 := hid (D6.out.on b4)
      replace SH := hid (SH.out.call b4)
      replace SA := hid (SA.out.call b4)
      replace HB := hid (Bl.call HB.out b4)
      have bz := bel_new w4 (.cells #[.int .i64 0, .int .i64 0, .int .i64 0, .slice none 0 0, .slice none 0 0] 28)
      obtain ⟨w5, hw5⟩ : ∃ W, W = w4.alloc (.cells #[.int .i64 0, .int .i64 0, .int .i64 0, .slice none 0 0, .slice none 0 0] 28) := ⟨_, rfl⟩
      obtain ⟨K10, hK10⟩ : ∃ K, K = w4.heap.size := ⟨_, rfl⟩
      have D10 : Hid (Blk w5 K10 28 [.int .i64 0, .int .i64 0, .int .i64 0, .slice none 0 0, .slice none 0 0]) := hid (by rw [hw5, hK10]; exact Blk.new _ _ _)
      rw [← hw5] at bz
      replace DC := hid (DC.out.on bz)
      replace D6 := hid (D6.out.on bz)
      replace SH := hid (SH.out.call bz)
      replace SA := hid (SA.out.call bz)
      replace HB := hid (Bl.call HB.out bz)
      have HW5 := hid hw5
      have HK10 := hid hK10
      clear bz b4 hw5 hK10
      go_upto_region 4 with (fail)
      rw [← HW5.out]
      have f0 := D6.out.frozen 0
      have f1 := D6.out.frozen 1
      have f2 := D6.out.frozen 2
      have f3 := D6.out.frozen 3
      have f4 := D6.out.frozen 4
      have p0 := D6.out.cell 0
      have p1 := D6.out.cell 1
      have p2 := D6.out.cell 2
      have p3 := D6.out.cell 3
      have p4 := D6.out.cell 4
      obtain ⟨w99, hw⟩ : ∃ z, z = (((((w5.setCell ⟨K6, 0, none⟩ (.int .i64 0)).setCell ⟨K6, 1, none⟩ (.int .i64 0)).setCell ⟨K6, 2, none⟩ (.int .i64 0)).setCell ⟨K6, 3, none⟩ (.slice none 0 0)).setCell ⟨K6, 4, none⟩ (.slice none 0 0)) := ⟨_, rfl⟩
      have D8 : Hid (Blk w99 K6 28 [.int .i64 0, .int .i64 0, .int .i64 0, .slice none 0 0, .slice none 0 0]) := hid (by rw [hw]; exact put5_blk D6.out)
      have HB8 : Hid (Below w.heap.size w w99) := hid (by rw [hw]; exact put5_bel HB.out LO6.out)
      have HW8 := hid hw
      clear hw
      go_wp2
      rw [← HW8.out]
      clear f0 f1 f2 f3 f4
      clear p0 p1 p2 p3 p4
      have e0 := D8.out.cell 0
      have e1 := D8.out.cell 1
      have e2 := D8.out.cell 2
      have e3 := D8.out.cell 3
      have e4 := D8.out.cell 4
      exact bodyPost_ret (v := .tuple #[.agg #[.int .i64 0, .int .i64 0, .int .i64 0, .slice none 0 0, .slice none 0 0], .slice none 0 0, .bool false]) (by simp [results, Tryz.results5, go_sem, e0, e1, e2, e3, e4]) rfl ⟨rfl, HB8.out⟩
theorem off_nil (K : Nat) : Off K (.slice none 0 0) := by
  intro b o n c h _
  injection h with h1
  cases h1
theorem take30 {α : Type} (l : List α) {m : Nat} (h : l.length = m) : l.take 30 = l.take (min m 30) := by
  rcases Nat.le_total m 30 with h2 | h2
  · rw [Nat.min_eq_left h2, List.take_of_length_le (by omega), List.take_of_length_le (by omega)]
  · rw [Nat.min_eq_right h2]
theorem few_gp {n L R : Nat} {hs : List (Nat × Nat)} (h : GP n L R hs []) (m : Nat) : few n L R m = ((min m 30 : Nat) : Int) := by
  have h1 := h.n1
  have h2 := h.n2
  have h3 := h.l1
  have h4 := h.l2
  have h5 := h.r1
  have h6 := h.r2
  exact few_pos ⟨⟨by omega, by omega⟩, ⟨by omega, by omega⟩, by omega, by omega⟩
set_option maxHeartbeats 32000000 in
set_option maxRecDepth 100000 in
theorem behind_yes {n L R : Nat} {vh va : Value} {m : Nat} {hs : List (Nat × Nat)} {acts : List (Bool × Int × Int)} {w : World} (h1 : Sl w w.heap.size 2 vh hs.length (hcs hs)) (hr : hs.length ≤ 8796093022208) (h2 : Sl w w.heap.size 3 va m (atc acts)) (hp0 : GP n L R hs []) :
    Calls Tryz.prog 5 #[.agg #[.int .i64 (n : Int), .int .i64 (L : Int), .int .i64 (R : Int)], vh, va] w (BhPost n L R hs (some (actsF n L (Tp.Sof hs R (lvl n) L) (acts.take 30))) w) := by
  have SH := hid h1
  have SA := hid h2
  have SA0 := hid h2
  have HR := hid hr
  obtain ⟨nh, hnh⟩ : ∃ k, k = hs.length := ⟨_, rfl⟩
  obtain ⟨A1, c1, hv1, _, _, _, _⟩ := id h1
  obtain ⟨A2, c2, hv2, hmc, hcm, _, _⟩ := id h2
  subst hv1 hv2
  clear hnh
  obtain ⟨w1, hw1⟩ : ∃ W, W = w.alloc (.cells #[.int .i64 (n : Int), .int .i64 (L : Int), .int .i64 (R : Int)] 23) := ⟨_, rfl⟩
  obtain ⟨w2, hw2⟩ : ∃ W, W = w1.alloc (.cells #[.int .i64 0, .int .i64 0, .int .i64 0, .slice none 0 0, .slice none 0 0] 28) := ⟨_, rfl⟩
  obtain ⟨KC, hKC⟩ : ∃ K, K = w.heap.size := ⟨_, rfl⟩
  obtain ⟨K6, hK6⟩ : ∃ K, K = KC + 1 := ⟨_, rfl⟩
  have hsz1 : w1.heap.size = KC + 1 := by rw [hw1, hKC]; simp
  have DC : Hid (Blk w2 KC 23 [.int .i64 (n : Int), .int .i64 (L : Int), .int .i64 (R : Int)]) := hid (by rw [hw2, hw1, hKC]; exact (Blk.new _ _ _).alloc _)
  have D6 : Hid (Blk w2 K6 28 [.int .i64 0, .int .i64 0, .int .i64 0, .slice none 0 0, .slice none 0 0]) := hid (by rw [hw2, hK6, ← hsz1]; exact Blk.new _ _ _)
  have HB : Hid (Below w.heap.size w w2) := hid (by rw [hw2, hw1]; exact Bl.new (bel_new _ _) _)
  replace SH : Hid (Sl w2 w2.heap.size 2 (.slice A1 hs.length c1) hs.length (hcs hs)) := hid (by rw [hw2, hw1]; exact (SH.out.new _).new _)
  replace SA : Hid (Sl w2 w2.heap.size 3 (.slice A2 m c2) m (atc acts)) := hid (by rw [hw2, hw1]; exact (SA.out.new _).new _)
  have LO6 : Hid (w.heap.size ≤ K6) := hid (by omega)
  have LOC : Hid (w.heap.size ≤ KC) := hid (by omega)
  have HW1 := hid hw1
  have HW2 := hid hw2
  have HKC := hid hKC
  have HK6 := hid hK6
  clear hw1 hw2 hKC hK6 hsz1 hr h1 h2
  obtain ⟨nk, hnk⟩ : ∃ k, k = min m 30 := ⟨_, rfl⟩
  have hfe : few n L R m = (nk : Int) := by rw [hnk]; exact few_gp hp0 m
  have HG : Hid (GR n L R (hz hs) []) := hid hp0.gr
  have hnk0 : ¬ (nk : Int) < 0 := by omega
  have hnk30 : nk ≤ 30 := by omega
  have hnkm : nk ≤ m := by omega
  have hnkc : (nk : Int) ≤ (c2 : Int) := by omega
  have hlm : acts.length = m := by have := SA.out.len; rw [len_atc] at this; omega
  have HTK : Hid (acts.take 30 = acts.take nk) := hid (by rw [hnk]; exact take30 _ hlm)
  have HLA : Hid ((acts.take nk).length = nk) := hid (by rw [List.length_take]; omega)
  obtain ⟨S, hS⟩ : ∃ S, S = Tp.Sof hs R (lvl n) L := ⟨_, rfl⟩
  have HSO : Hid (Tp.SOk S) := hid (by rw [hS]; exact Tp.Sof_ok _ _ _ _)
  have RI : Hid (∀ {w : World} {vh ve : Value} {es : List (Int × Int × Int)} (u v : Int), GM w vh ve hs es → GP n L R hs es → es.length ≤ 999 → Calls Tryz.prog 16 #[grV n L R vh ve, .int .i64 u, .int .i64 v] w (ActPost n L R vh ve es (Tp.insF n L S es u v) w)) := hid (fun u v h1 h2 h3 => by rw [hS]; exact tInsert_ok h1 h2 h3 u v)
  have RD : Hid (∀ {w : World} {vh ve : Value} {es : List (Int × Int × Int)} (u v : Int), GM w vh ve hs es → GP n L R hs es → es.length ≤ 999 → Calls Tryz.prog 14 #[grV n L R vh ve, .int .i64 u, .int .i64 v] w (ActPost n L R vh ve es (Tp.delF n L S es u v) w)) := hid (fun u v h1 h2 h3 => by rw [hS]; exact tDelete_ok h1 h2 h3 u v)
  rw [← hS]
  obtain ⟨at_, hat⟩ : ∃ l, l = acts.take nk := ⟨_, rfl⟩
  have HGP : Hid (∀ i, i ≤ nk → GP n L R hs (actsF n L S (at_.take i)) ∧ (actsF n L S (at_.take i)).length ≤ 30) := hid (fun i hi => by
    have hl : (at_.take i).length ≤ 30 := by rw [List.length_take, hat, List.length_take]; omega
    have := gp_acts hp0 HSO.out (at_.take i) (by omega)
    exact ⟨this.1, by omega⟩)
  have HNX : Hid (∀ i, (h : i < at_.length) → actsF n L S (at_.take (i + 1)) = actF n L S (actsF n L S (at_.take i)) at_[i]) := hid (fun i h => acts_next n L S h)
  have hslA := run_take_of Tacts A2 m c2 nk (by omega)
  have HAL : Hid (at_.length = nk) := hid (by rw [hat]; exact HLA.out)
  have HFIN : Hid (actsF n L S (acts.take 30) = actsF n L S (at_.take nk)) := hid (by rw [HTK.out, hat, List.take_take, Nat.min_self])
  have HTKA : Hid (∀ {w : World}, Sl w w.heap.size 3 (.slice A2 m c2) m (atc acts) → Sl w w.heap.size 3 (.slice (cutA A2 c2 0 3) nk c2) nk (atc at_)) := hid (fun h => by rw [hat, ← atc_take]; exact h.take hnkm)
  clear hp0 hnk hS hat hlm hmc hcm hnkm
  go_enter Tryz.func5, Tryz.ntmps5
  go_upto_region 1 with (fail)
  rw [← HW1.out, ← HKC.out, ← HK6.out, ← HW2.out]
  have n0 := DC.out.cell 0
  have n1 := DC.out.cell 1
  have n2 := DC.out.cell 2
  go_wp2_with fail
  refine (few_is SA.out).mono ?_; rintro e w3 ⟨rfl, b3⟩
  clear n0 n1 n2
  replace DC := hid (DC.out.on b3)
  replace D6 := hid (D6.out.on b3)
  replace SH := hid (SH.out.call b3)
  replace SA := hid (SA.out.call b3)
  replace HB := hid (Bl.call HB.out b3)
  clear b3
  have n0 := DC.out.cell 0
  have n1 := DC.out.cell 1
  have n2 := DC.out.cell 2
  go_wp2_with fail
  refine (tnew_is SH.out HR.out true ⟨fun _ => rfl, fun _ => HG.out⟩).mono ?_; intro e w4 hpost
  clear n0 n1 n2
  unfold NewPost at hpost
  rw [if_pos rfl] at hpost
  obtain ⟨An, cn, rfl, o4, b4⟩ := hpost
  have OFF6 : Hid (Off K6 (.slice An hs.length cn)) := hid (own_isOff o4 D6.out.lt)
  replace DC := hid (DC.out.on b4)
  replace D6 := hid (D6.out.on b4)
  replace SH := hid (SH.out.call b4)
  replace SA := hid (SA.out.call b4)
  replace HB := hid (Bl.call HB.out b4)
  have bz := bel_new w4 (.cells #[.int .i64 (n : Int), .int .i64 (L : Int), .int .i64 (R : Int), .slice An hs.length cn, .slice none 0 0] 28)
  obtain ⟨w5, hw5⟩ : ∃ W, W = w4.alloc (.cells #[.int .i64 (n : Int), .int .i64 (L : Int), .int .i64 (R : Int), .slice An hs.length cn, .slice none 0 0] 28) := ⟨_, rfl⟩
  obtain ⟨K10, hK10⟩ : ∃ K, K = w4.heap.size := ⟨_, rfl⟩
  have D10 : Hid (Blk w5 K10 28 [.int .i64 (n : Int), .int .i64 (L : Int), .int .i64 (R : Int), .slice An hs.length cn, .slice none 0 0]) := hid (by rw [hw5, hK10]; exact Blk.new _ _ _)
  rw [← hw5] at bz
  have SHn : Hid (Sl w4 w4.heap.size 2 (.slice An hs.length cn) hs.length (hcs hs)) := hid (Sl.of_own o4)
  have OFF10 : Hid (Off K10 (.slice An hs.length cn)) := hid (SHn.out.isOff (by omega))
  have NE610 : Hid (K6 ≠ K10) := hid (by have := D6.out.lt; omega)
  have NEC10 : Hid (KC ≠ K10) := hid (by have := DC.out.lt; omega)
  have LO10 : Hid (w.heap.size ≤ K10) := hid (by have := HB.out.size; omega)
  replace DC := hid (DC.out.on bz)
  replace D6 := hid (D6.out.on bz)
  replace SH := hid (SH.out.call bz)
  replace SA := hid (SA.out.call bz)
  replace SHn := hid (SHn.out.call bz)
  replace HB := hid (Bl.call HB.out bz)
  have HW5 := hid hw5
  have HK10 := hid hK10
  clear bz b4 hw5 hK10 o4
  have SA3 := hid (HTKA.out SA0.out)
  generalize cutA A2 c2 0 3 = P3 at *
  obtain ⟨A3, c3, hv3, _, _, _, hx3⟩ := id SA3.out
  injection hv3 with e1 e2 e3
  subst e1
  have HX3 := hid hx3
  clear hx3 e2 e3
  go_upto_region 5 with (fail)
  rw [← HW5.out, ← HK10.out]
  go_wp2_with fail
  go_loopw [12, 35] (fun ov iv wr => ∃ (i q k : Nat) (A : Option Addr) (c : Nat) (al : List (Int × Int × Int)), iv = .int .i64 (i : Int) ∧ i ≤ nk ∧ q ≤ i ∧ Hid ((actsF n L S (at_.take i)).length = k) ∧ Hid (Sl wr wr.heap.size 3 ov q (eds al)) ∧ Hid (Off K10 ov) ∧ Hid (Blk wr K10 28 [.int .i64 (n : Int), .int .i64 (L : Int), .int .i64 (R : Int), .slice An hs.length cn, .slice A k c]) ∧ Hid (Sl wr wr.heap.size 3 (.slice A k c) k (eds (actsF n L S (at_.take i)))) ∧ Hid (Sl wr wr.heap.size 2 (.slice An hs.length cn) hs.length (hcs hs)) ∧ Hid (Blk wr KC 23 [.int .i64 (n : Int), .int .i64 (L : Int), .int .i64 (R : Int)]) ∧ Hid (Blk wr K6 28 [.int .i64 0, .int .i64 0, .int .i64 0, .slice none 0 0, .slice none 0 0]) ∧ Hid (Off K6 (.slice A k c)) ∧ Hid (Off K10 (.slice A k c)) ∧ Hid (Below w.heap.size w wr)) (fun _ iv _ => nk - (intOf iv).toNat)
  case atStart => exact ⟨0, 0, 0, none, 0, [], rfl, Nat.zero_le _, Nat.le_refl _, hid rfl, hid (Sl.none_ _ _ _), hid (off_nil _), D10, hid (Sl.none_ _ _ _), SHn, DC, D6, hid (off_nil _), hid (off_nil _), HB⟩
  case round =>
    clear D10 DC D6 SHn SH SA HB
    obtain ⟨i, q, k, A, c, al, rfl, hi, hqi, HK, SL, OFL, D10, SE, SH, DC, D6, OFE6, OFE10, HBr⟩ := hrel
    by_cases hlt : i < nk
    case pos =>
      have j0 : (i : Int) < (nk : Int) := by omega
      have hil : i < at_.length := by rw [HAL.out]; exact hlt
      obtain ⟨b6, o6, rfl, hb6, hc6⟩ := HX3.out (by omega)
      obtain ⟨p0, p1, p2⟩ := atc_cell hc6 hil
      have q0 := (HBr.out.cell (p := ⟨b6, o6 + i * 3, none⟩) hb6).trans p0
      have q1 := (HBr.out.cell (p := ⟨b6, o6 + i * 3 + 1, none⟩) hb6).trans p1
      have q2 := (HBr.out.cell (p := ⟨b6, o6 + i * 3 + 2, none⟩) hb6).trans p2
      have HNXi := hid (HNX.out i hil)
      have HGPi := hid (HGP.out i (by omega)).1
      have HELi : Hid ((actsF n L S (at_.take i)).length ≤ 999) := hid (Nat.le_trans (HGP.out i (by omega)).2 (by decide))
      generalize at_[i] = act at q0 q1 q2 p0 p1 p2 HNXi
      obtain ⟨gone, u, v⟩ := act
      dsimp only at q0 q1 q2
      clear p0 p1 p2 hc6 hil
      obtain ⟨es, hes⟩ : ∃ es, es = actsF n L S (at_.take i) := ⟨_, rfl⟩
      rw [← hes] at HK SE HGPi HELi HNXi
      clear hes
      have bz := bel_new wr (.cells #[.bool gone, .int .i64 u, .int .i64 v] 52)
      obtain ⟨wA, hwA⟩ : ∃ W, W = wr.alloc (.cells #[.bool gone, .int .i64 u, .int .i64 v] 52) := ⟨_, rfl⟩
      obtain ⟨KA, hKA⟩ : ∃ K, K = wr.heap.size := ⟨_, rfl⟩
      have DA : Hid (Blk wA KA 52 [.bool gone, .int .i64 u, .int .i64 v]) := hid (by rw [hwA, hKA]; exact Blk.new _ _ _)
      rw [← hwA] at bz
      have NEA : Hid (KA ≠ K10) := hid (by have := D10.out.lt; omega)
      replace D10 := hid (D10.out.on bz)
      replace DC := hid (DC.out.on bz)
      replace D6 := hid (D6.out.on bz)
      replace SL := hid (SL.out.call bz)
      replace SE := hid (SE.out.call bz)
      replace SH := hid (SH.out.call bz)
      replace HBr := hid (Bl.call HBr.out bz)
      have HWA := hid hwA
      have HKA := hid hKA
      clear bz hwA hKA
      go_upto_region 9 with (fail)
      rw [← HWA.out, ← HKA.out]
      clear q0 q1 q2
      cases gone with
      | true =>
        have GMt : Hid (GM wA (.slice An hs.length cn) (.slice A k c) hs es) := hid ⟨SH.out, by rw [HK.out]; exact SE.out⟩
        have g0 := D10.out.cell 0
        have g1 := D10.out.cell 1
        have g2 := D10.out.cell 2
        have g3 := D10.out.cell 3
        have g4 := D10.out.cell 4
        have a0 := DA.out.cell 0
        have a1 := DA.out.cell 1
        have a2 := DA.out.cell 2
        go_wp2_with fail
        refine (RD.out u v GMt.out HGPi.out HELi.out).mono ?_; rintro e w7 ⟨v7, err7, rfl, _, s7, of7, b7⟩
        clear g0 g1 g2 g3 g4
        clear a0 a1 a2
        obtain ⟨k7, hk7⟩ : ∃ k, (Tp.delF n L S es u v).length = k := ⟨_, rfl⟩
        rw [hk7] at s7
        obtain ⟨A7, c7, hv7, _, _, _, _⟩ := id s7
        subst hv7
        have HK7 := hid hk7
        have K6L : K6 < wA.heap.size := D6.out.lt
        have K10L : K10 < wA.heap.size := D10.out.lt
        have OFE6' : Hid (Off K6 (.slice A7 k7 c7)) := hid (of7 _ K6L OFE6.out)
        have OFE10' : Hid (Off K10 (.slice A7 k7 c7)) := hid (of7 _ K10L OFE10.out)
        have S7 := hid s7
        replace D10 := hid (D10.out.on b7)
        replace DC := hid (DC.out.on b7)
        replace D6 := hid (D6.out.on b7)
        replace DA := hid (DA.out.on b7)
        replace SL := hid (SL.out.call b7)
        replace SH := hid (SH.out.call b7)
        replace HBr := hid (Bl.call HBr.out b7)
        clear s7 of7 b7 hk7 K6L K10L GMt SE OFE6 OFE10
        obtain ⟨w8, hw⟩ : ∃ z, z = (((((w7.setCell ⟨K10, 0, none⟩ (.int .i64 (n : Int))).setCell ⟨K10, 1, none⟩ (.int .i64 (L : Int))).setCell ⟨K10, 2, none⟩ (.int .i64 (R : Int))).setCell ⟨K10, 3, none⟩ (.slice An hs.length cn)).setCell ⟨K10, 4, none⟩ (.slice A7 k7 c7)) := ⟨_, rfl⟩
        have D10n : Hid (Blk w8 K10 28 [.int .i64 (n : Int), .int .i64 (L : Int), .int .i64 (R : Int), .slice An hs.length cn, .slice A7 k7 c7]) := hid (by rw [hw]; exact put5_blk D10.out)
        have DCn : Hid (Blk w8 KC 23 [.int .i64 (n : Int), .int .i64 (L : Int), .int .i64 (R : Int)]) := hid (by rw [hw]; exact put5_far DC.out NEC10.out)
        have D6n : Hid (Blk w8 K6 28 [.int .i64 0, .int .i64 0, .int .i64 0, .slice none 0 0, .slice none 0 0]) := hid (by rw [hw]; exact put5_far D6.out NE610.out)
        have DAn : Hid (Blk w8 KA 52 [.bool true, .int .i64 u, .int .i64 v]) := hid (by rw [hw]; exact put5_far DA.out NEA.out)
        have SLn : Hid (Sl w8 w8.heap.size 3 u12 q (eds al)) := hid (by rw [hw]; exact put5_sl SL.out OFL.out)
        have SHn : Hid (Sl w8 w8.heap.size 2 (.slice An hs.length cn) hs.length (hcs hs)) := hid (by rw [hw]; exact put5_sl SH.out OFF10.out)
        have SEn : Hid (Sl w8 w8.heap.size 3 (.slice A7 k7 c7) k7 (eds (Tp.delF n L S es u v))) := hid (by rw [hw]; exact put5_sl S7.out OFE10'.out)
        have HBn : Hid (Below w.heap.size w w8) := hid (by rw [hw]; exact put5_bel HBr.out LO10.out)
        have HW8 := hid hw
        have f0 := D10.out.frozen 0
        have f1 := D10.out.frozen 1
        have f2 := D10.out.frozen 2
        have f3 := D10.out.frozen 3
        have f4 := D10.out.frozen 4
        have p0 := D10.out.cell 0
        have p1 := D10.out.cell 1
        have p2 := D10.out.cell 2
        have p3 := D10.out.cell 3
        have p4 := D10.out.cell 4
        clear hw D6 DC DA SL SH S7 HBr
        go_upto_region 11 with (fail)
        rw [← HW8.out]
        clear f0 f1 f2 f3 f4
        clear p0 p1 p2 p3 p4
        clear D10
        have n0 := DCn.out.cell 0
        have a1 := DAn.out.cell 1
        have a2 := DAn.out.cell 2
        go_wp2_with fail
        refine (rremoveE_any (n := (n : Int)) (u := u) (v := v) SLn.out (by omega)).mono ?_; rintro e w9 ⟨v9, err9, q9, l9, rfl, hq9, s9, of9, b9⟩
        clear n0 a1 a2
        have OFL9 : Hid (Off K10 v9) := hid (of9 _ D10n.out.lt OFL.out)
        have SL9 := hid s9
        replace D10n := hid (D10n.out.on b9)
        replace DCn := hid (DCn.out.on b9)
        replace D6n := hid (D6n.out.on b9)
        replace SEn := hid (SEn.out.call b9)
        replace SHn := hid (SHn.out.call b9)
        replace HBn := hid (Bl.call HBn.out b9)
        have HEE : Hid (actsF n L S (at_.take (i + 1)) = Tp.delF n L S es u v) := hid HNXi.out
        rw [← HEE.out] at SEn HK7
        clear s9 of9 b9 SLn DAn
        go_wp2_with fail
        go_roundw
        case rel => exact ⟨i + 1, q9, k7, A7, c7, l9, by go_num, by omega, by omega, HK7, SL9, OFL9, D10n, SEn, SHn, DCn, D6n, OFE6', OFE10', HBn⟩
        case measure => simp [intOf]; omega
      | false =>
        have GMt : Hid (GM wA (.slice An hs.length cn) (.slice A k c) hs es) := hid ⟨SH.out, by rw [HK.out]; exact SE.out⟩
        have g0 := D10.out.cell 0
        have g1 := D10.out.cell 1
        have g2 := D10.out.cell 2
        have g3 := D10.out.cell 3
        have g4 := D10.out.cell 4
        have a0 := DA.out.cell 0
        have a1 := DA.out.cell 1
        have a2 := DA.out.cell 2
        go_wp2_with fail
        refine (RI.out u v GMt.out HGPi.out HELi.out).mono ?_; rintro e w7 ⟨v7, err7, rfl, _, s7, of7, b7⟩
        clear g0 g1 g2 g3 g4
        clear a0 a1 a2
        obtain ⟨k7, hk7⟩ : ∃ k, (Tp.insF n L S es u v).length = k := ⟨_, rfl⟩
        rw [hk7] at s7
        obtain ⟨A7, c7, hv7, _, _, _, _⟩ := id s7
        subst hv7
        have HK7 := hid hk7
        have K6L : K6 < wA.heap.size := D6.out.lt
        have K10L : K10 < wA.heap.size := D10.out.lt
        have OFE6' : Hid (Off K6 (.slice A7 k7 c7)) := hid (of7 _ K6L OFE6.out)
        have OFE10' : Hid (Off K10 (.slice A7 k7 c7)) := hid (of7 _ K10L OFE10.out)
        have S7 := hid s7
        replace D10 := hid (D10.out.on b7)
        replace DC := hid (DC.out.on b7)
        replace D6 := hid (D6.out.on b7)
        replace DA := hid (DA.out.on b7)
        replace SL := hid (SL.out.call b7)
        replace SH := hid (SH.out.call b7)
        replace HBr := hid (Bl.call HBr.out b7)
        clear s7 of7 b7 hk7 K6L K10L GMt SE OFE6 OFE10
        obtain ⟨w8, hw⟩ : ∃ z, z = (((((w7.setCell ⟨K10, 0, none⟩ (.int .i64 (n : Int))).setCell ⟨K10, 1, none⟩ (.int .i64 (L : Int))).setCell ⟨K10, 2, none⟩ (.int .i64 (R : Int))).setCell ⟨K10, 3, none⟩ (.slice An hs.length cn)).setCell ⟨K10, 4, none⟩ (.slice A7 k7 c7)) := ⟨_, rfl⟩
        have D10n : Hid (Blk w8 K10 28 [.int .i64 (n : Int), .int .i64 (L : Int), .int .i64 (R : Int), .slice An hs.length cn, .slice A7 k7 c7]) := hid (by rw [hw]; exact put5_blk D10.out)
        have DCn : Hid (Blk w8 KC 23 [.int .i64 (n : Int), .int .i64 (L : Int), .int .i64 (R : Int)]) := hid (by rw [hw]; exact put5_far DC.out NEC10.out)
        have D6n : Hid (Blk w8 K6 28 [.int .i64 0, .int .i64 0, .int .i64 0, .slice none 0 0, .slice none 0 0]) := hid (by rw [hw]; exact put5_far D6.out NE610.out)
        have DAn : Hid (Blk w8 KA 52 [.bool false, .int .i64 u, .int .i64 v]) := hid (by rw [hw]; exact put5_far DA.out NEA.out)
        have SLn : Hid (Sl w8 w8.heap.size 3 u12 q (eds al)) := hid (by rw [hw]; exact put5_sl SL.out OFL.out)
        have SHn : Hid (Sl w8 w8.heap.size 2 (.slice An hs.length cn) hs.length (hcs hs)) := hid (by rw [hw]; exact put5_sl SH.out OFF10.out)
        have SEn : Hid (Sl w8 w8.heap.size 3 (.slice A7 k7 c7) k7 (eds (Tp.insF n L S es u v))) := hid (by rw [hw]; exact put5_sl S7.out OFE10'.out)
        have HBn : Hid (Below w.heap.size w w8) := hid (by rw [hw]; exact put5_bel HBr.out LO10.out)
        have HW8 := hid hw
        have f0 := D10.out.frozen 0
        have f1 := D10.out.frozen 1
        have f2 := D10.out.frozen 2
        have f3 := D10.out.frozen 3
        have f4 := D10.out.frozen 4
        have p0 := D10.out.cell 0
        have p1 := D10.out.cell 1
        have p2 := D10.out.cell 2
        have p3 := D10.out.cell 3
        have p4 := D10.out.cell 4
        clear hw D6 DC DA SL SH S7 HBr
        go_upto_region 13 with (fail)
        rw [← HW8.out]
        clear f0 f1 f2 f3 f4
        clear p0 p1 p2 p3 p4
        clear D10
        have n0 := DCn.out.cell 0
        have a1 := DAn.out.cell 1
        have a2 := DAn.out.cell 2
        go_wp2_with fail
        refine (raddE_any (n := (n : Int)) (u := u) (v := v) SLn.out (by omega)).mono ?_; rintro e w9 ⟨v9, err9, q9, l9, rfl, hq9, s9, of9, b9⟩
        clear n0 a1 a2
        have OFL9 : Hid (Off K10 v9) := hid (of9 _ D10n.out.lt OFL.out)
        have SL9 := hid s9
        replace D10n := hid (D10n.out.on b9)
        replace DCn := hid (DCn.out.on b9)
        replace D6n := hid (D6n.out.on b9)
        replace SEn := hid (SEn.out.call b9)
        replace SHn := hid (SHn.out.call b9)
        replace HBn := hid (Bl.call HBn.out b9)
        have HEE : Hid (actsF n L S (at_.take (i + 1)) = Tp.insF n L S es u v) := hid HNXi.out
        rw [← HEE.out] at SEn HK7
        clear s9 of9 b9 SLn DAn
        go_wp2_with fail
        go_roundw
        case rel => exact ⟨i + 1, q9, k7, A7, c7, l9, by go_num, by omega, by omega, HK7, SL9, OFL9, D10n, SEn, SHn, DCn, D6n, OFE6', OFE10', HBn⟩
        case measure => simp [intOf]; omega
    case neg =>
      have j0 : ¬ (i : Int) < (nk : Int) := by omega
      have hie : i = nk := by omega
      have HES : Hid (actsF n L S (acts.take 30) = actsF n L S (at_.take i)) := hid (by rw [hie]; exact HFIN.out)
      clear hie
      have g0 := D10.out.cell 0
      have g1 := D10.out.cell 1
      have g2 := D10.out.cell 2
      have g3 := D10.out.cell 3
      have g4 := D10.out.cell 4
      have f0 := D6.out.frozen 0
      have f1 := D6.out.frozen 1
      have f2 := D6.out.frozen 2
      have f3 := D6.out.frozen 3
      have f4 := D6.out.frozen 4
      have p0 := D6.out.cell 0
      have p1 := D6.out.cell 1
      have p2 := D6.out.cell 2
      have p3 := D6.out.cell 3
      have p4 := D6.out.cell 4
      obtain ⟨w99, hw⟩ : ∃ z, z = (((((wr.setCell ⟨K6, 0, none⟩ (.int .i64 (n : Int))).setCell ⟨K6, 1, none⟩ (.int .i64 (L : Int))).setCell ⟨K6, 2, none⟩ (.int .i64 (R : Int))).setCell ⟨K6, 3, none⟩ (.slice An hs.length cn)).setCell ⟨K6, 4, none⟩ (.slice A k c)) := ⟨_, rfl⟩
      have D8 : Hid (Blk w99 K6 28 [.int .i64 (n : Int), .int .i64 (L : Int), .int .i64 (R : Int), .slice An hs.length cn, .slice A k c]) := hid (by rw [hw]; exact put5_blk D6.out)
      have HB8 : Hid (Below w.heap.size w w99) := hid (by rw [hw]; exact put5_bel HBr.out LO6.out)
      have GM8 : Hid (GM w99 (.slice An hs.length cn) (.slice A k c) hs (actsF n L S (at_.take i))) := hid ⟨by rw [hw]; exact put5_sl SH.out OFF6.out, by rw [HK.out, hw]; exact put5_sl SE.out OFE6.out⟩
      have HW8 := hid hw
      clear hw
      go_wp2
      rw [← HW8.out]
      clear g0 g1 g2 g3 g4
      clear f0 f1 f2 f3 f4
      clear p0 p1 p2 p3 p4
      have e0 := D8.out.cell 0
      have e1 := D8.out.cell 1
      have e2 := D8.out.cell 2
      have e3 := D8.out.cell 3
      have e4 := D8.out.cell 4
      exact bodyPost_ret (v := .tuple #[.agg #[.int .i64 (n : Int), .int .i64 (L : Int), .int .i64 (R : Int), .slice An hs.length cn, .slice A k c], u12, .bool true]) (by simp [results, Tryz.results5, go_sem, e0, e1, e2, e3, e4]) rfl ⟨_, _, _, rfl, by rw [HES.out]; exact GM8.out, HB8.out⟩
end Go.Proofs.YtahodfikhocobaaGreatDoor
namespace Tp
open Pt
set_option linter.unusedVariables false
def actP (n L : Nat) (S : Nat → List PE → Option Nat) (es : List Ed) (a : Bool × Int × Int) : List Ed := if a.1 then delF n L S es a.2.1 a.2.2 else insF n L S es a.2.1 a.2.2
theorem inv_acts {n L : Nat} (hn : 0 < n) (hL : L ≤ 16) {S : Nat → List PE → Option Nat} (hS : SOk S) (hSL : ∀ t ps, L ≤ t → S t ps = none) : ∀ l : List (Bool × Int × Int), Gd n L (l.foldl (actP n L S) []) ∧ InvG n L S (l.foldl (actP n L S) []) := by
  refine snoc_ind ?_ ?_
  · exact ⟨gd_nil hn, inv_nil hn hS⟩
  · intro l a ih
    rw [List.foldl_append]
    show Gd n L (actP n L S (l.foldl (actP n L S) []) a) ∧ InvG n L S (actP n L S (l.foldl (actP n L S) []) a)
    unfold actP
    split
    · exact ⟨ih.1.dels hL hS _ _, inv_dels ih.1 hL hS hSL ih.2 _ _⟩
    · exact ⟨ih.1.ins hL hS _ _, inv_ins ih.1 hL hS hSL ih.2 _ _⟩
end Tp
namespace Go.Proofs.YtahodfikhocobaaGreatDoor
open Go.RowKit
set_option linter.unusedVariables false
set_option linter.unusedSimpArgs false
attribute [local go_sem ↓] Go.wp_at_zero Go.wp_at_succ
theorem same_tp {v v' : Value} {p q : List Int} {w : World} (b : Bool) (h : sameB p q = b) (hs : Sl w w.heap.size 1 v p.length (ints p)) (hs' : Sl w w.heap.size 1 v' q.length (ints q)) :
    Calls Tryz.prog 9 #[v, v'] w fun e w' => e = .returned (.bool b) ∧ Qt w w' := same_is b h hs hs'
theorem actsF_P (n L : Nat) (S : Nat → List (Int × Int) → Option Nat) (l : List (Bool × Int × Int)) : actsF n L S l = l.foldl (Tp.actP n L S) [] := rfl
set_option maxHeartbeats 32000000 in
set_option maxRecDepth 100000 in
theorem ts_no (AW : ∀ w : World, Calls Tryz.prog 6 #[] w (IsTrue w)) {N L R : Int} {vh va : Value} {m : Nat} {hs : List (Nat × Nat)} {acts : List (Bool × Int × Int)} {w : World} (h1 : Sl w w.heap.size 2 vh hs.length (hcs hs)) (hr : hs.length ≤ 8796093022208) (h2 : Sl w w.heap.size 3 va m (atc acts)) (hno : ¬ FewOk N L R ∨ ¬ GR N L R (hz hs) []) :
    Calls Tryz.prog 3 #[.agg #[.int .i64 N, .int .i64 L, .int .i64 R], vh, va] w (IsTrue w) := by
  have HAW := hid AW
  have SH := hid h1
  have SA := hid h2
  have HR := hid hr
  obtain ⟨w1, hw1⟩ : ∃ W, W = w.alloc (.cells #[.int .i64 N, .int .i64 L, .int .i64 R] 23) := ⟨_, rfl⟩
  obtain ⟨KC, hKC⟩ : ∃ K, K = w.heap.size := ⟨_, rfl⟩
  have DC : Hid (Blk w1 KC 23 [.int .i64 N, .int .i64 L, .int .i64 R]) := hid (by rw [hw1, hKC]; exact Blk.new _ _ _)
  have HB : Hid (Below w.heap.size w w1) := hid (by rw [hw1]; exact bel_new _ _)
  replace SH := hid (SH.out.call HB.out)
  replace SA := hid (SA.out.call HB.out)
  have HW1 := hid hw1
  have HKC := hid hKC
  clear hw1 hKC hr h1 h2 AW
  have n0 := DC.out.cell 0
  have n1 := DC.out.cell 1
  have n2 := DC.out.cell 2
  have HNO := hid hno
  clear hno
  go_enter Tryz.func3, Tryz.ntmps3
  go_upto_region 1 with (fail)
  rw [← HW1.out, ← HKC.out]
  go_wp2_with fail
  refine (behind_no SH.out HR.out SA.out HNO.out).mono ?_; rintro e w2 ⟨rfl, b2⟩
  have HB2 := hid (Bl.call HB.out b2)
  have HB3 := hid (Bl.new HB2.out (.cells #[.int .i64 0, .int .i64 0, .int .i64 0, .slice none 0 0, .slice none 0 0] 28))
  clear b2
  go_wp2_with fail
  refine (HAW.out _).mono ?_; rintro e w4 ⟨rfl, b4⟩
  have HB4 := hid (Bl.call HB3.out b4)
  clear b4
  go_wp2
  go_ret
  exact ⟨rfl, HB4.out⟩
set_option maxHeartbeats 32000000 in
set_option maxRecDepth 100000 in
theorem ts_yes (AW : ∀ w : World, Calls Tryz.prog 6 #[] w (IsTrue w)) {n L R : Nat} {vh va : Value} {m : Nat} {hs : List (Nat × Nat)} {acts : List (Bool × Int × Int)} {w : World} (h1 : Sl w w.heap.size 2 vh hs.length (hcs hs)) (hr : hs.length ≤ 8796093022208) (h2 : Sl w w.heap.size 3 va m (atc acts)) (hp0 : GP n L R hs []) :
    Calls Tryz.prog 3 #[.agg #[.int .i64 (n : Int), .int .i64 (L : Int), .int .i64 (R : Int)], vh, va] w (IsTrue w) := by
  have HAW := hid AW
  have SH := hid h1
  have SA := hid h2
  have HR := hid hr
  obtain ⟨w1, hw1⟩ : ∃ W, W = w.alloc (.cells #[.int .i64 (n : Int), .int .i64 (L : Int), .int .i64 (R : Int)] 23) := ⟨_, rfl⟩
  obtain ⟨KC, hKC⟩ : ∃ K, K = w.heap.size := ⟨_, rfl⟩
  have DC : Hid (Blk w1 KC 23 [.int .i64 (n : Int), .int .i64 (L : Int), .int .i64 (R : Int)]) := hid (by rw [hw1, hKC]; exact Blk.new _ _ _)
  have HB : Hid (Below w.heap.size w w1) := hid (by rw [hw1]; exact bel_new _ _)
  replace SH := hid (SH.out.call HB.out)
  replace SA := hid (SA.out.call HB.out)
  have HW1 := hid hw1
  have HKC := hid hKC
  clear hw1 hKC hr h1 h2 AW
  have n0 := DC.out.cell 0
  have n1 := DC.out.cell 1
  have n2 := DC.out.cell 2
  go_enter Tryz.func3, Tryz.ntmps3
  go_upto_region 1 with (fail)
  rw [← HW1.out, ← HKC.out]
  go_wp2_with fail
  refine (behind_yes SH.out HR.out SA.out hp0).mono ?_; rintro e w2 ⟨vh2, ve2, va2, rfl, gm2, b2⟩
  clear n0 n1 n2
  obtain ⟨es, hes⟩ : ∃ es, es = actsF n L (Tp.Sof hs R (lvl n) L) (acts.take 30) := ⟨_, rfl⟩
  rw [← hes] at gm2
  have HGI : Hid (Tp.Gd n L es ∧ Tp.InvG n L (Tp.Sof hs R (lvl n) L) es) := hid (by rw [hes, actsF_P]; exact Tp.inv_acts (by have := hp0.n1; omega) (by have := hp0.l2; omega) (Tp.Sof_ok _ _ _ _) (Tp.Sof_end _ _ _ _) _)
  have HP : Hid (GP n L R hs es) := hid (by rw [hes]; exact (gp_acts hp0 (Tp.Sof_ok _ _ _ _) _ (by rw [List.length_take]; omega)).1)
  have hn12 : n ≤ 12 := hp0.n2
  have hL4 : L ≤ 4 := hp0.l2
  obtain ⟨A1, c1, A2, c2, rfl, rfl⟩ := gm2.lit
  have GM2 := hid gm2
  replace HB := hid (Bl.call HB.out b2)
  replace DC := hid (DC.out.on b2)
  clear hes hp0 gm2 b2 SH SA
  have bz := bel_new w2 (.cells #[.int .i64 (n : Int), .int .i64 (L : Int), .int .i64 (R : Int), .slice A1 hs.length c1, .slice A2 es.length c2] 28)
  obtain ⟨w3, hw3⟩ : ∃ W, W = w2.alloc (.cells #[.int .i64 (n : Int), .int .i64 (L : Int), .int .i64 (R : Int), .slice A1 hs.length c1, .slice A2 es.length c2] 28) := ⟨_, rfl⟩
  obtain ⟨K7, hK7⟩ : ∃ K, K = w2.heap.size := ⟨_, rfl⟩
  have DG : Hid (Blk w3 K7 28 [.int .i64 (n : Int), .int .i64 (L : Int), .int .i64 (R : Int), .slice A1 hs.length c1, .slice A2 es.length c2]) := hid (by rw [hw3, hK7]; exact Blk.new _ _ _)
  rw [← hw3] at bz
  replace HB := hid (Bl.call HB.out bz)
  replace DC := hid (DC.out.on bz)
  replace GM2 := hid (GM2.out.call bz)
  have HW3 := hid hw3
  have HK7 := hid hK7
  clear bz hw3 hK7
  go_upto_region 4 with (fail)
  rw [← HW3.out, ← HK7.out]
  have n0 := DC.out.cell 0
  go_wp2_with fail
  go_loopw [29] (fun iv wr => ∃ i : Nat, iv = .int .i64 (i : Int) ∧ i ≤ n ∧ Hid (Below w3.heap.size w3 wr)) (fun iv _ => n - (intOf iv).toNat)
  case atStart => exact ⟨0, rfl, Nat.zero_le _, hid (Below.refl _ _)⟩
  case round =>
    clear n0
    obtain ⟨i, rfl, hi, HBr⟩ := hrel
    have n0 := (hid (DC.out.on HBr.out)).out.cell 0
    have n1 := (hid (DC.out.on HBr.out)).out.cell 1
    by_cases hlt : i < n
    case pos =>
      have j0 : (i : Int) < (n : Int) := by omega
      have i0 : (0 : Int) ≤ (i : Int) := by omega
      go_wp2_with fail
      go_loopw [34] (fun iv wr2 => ∃ t : Nat, iv = .int .i64 (t : Int) ∧ t ≤ L ∧ Hid (Below w3.heap.size w3 wr2)) (fun iv _ => L - (intOf iv).toNat)
      case atStart => exact ⟨0, rfl, Nat.zero_le _, HBr⟩
      case round =>
        clear n0 n1 HBr
        obtain ⟨t, rfl, ht, HBr⟩ := hrel
        by_cases htl : t < L
        case pos =>
          have j1 : (t : Int) < (L : Int) := by omega
          have t0 : (0 : Int) ≤ (t : Int) := by omega
          have DGr := hid (DG.out.on HBr.out)
          have DCr := hid (DC.out.on HBr.out)
          have GMr := hid (GM2.out.call HBr.out)
          have HB' := hid (HB.out.trans (HBr.out.mono HB.out.size))
          obtain ⟨l1, l2, l3, l4⟩ := Tp.inv_law HGI.out.1 HGI.out.2 (v := (i : Int)) ⟨i0, j0⟩ htl
          obtain ⟨r, hr⟩ : ∃ r, r = found (Tp.hsOf hs R t) R (lvl n) (Tp.cutL es (Tp.treeL n es t i)) := ⟨_, rfl⟩
          have HRS : Hid (r ≠ none → (Tp.treeL n es t i).length < (Tp.treeL n es ((t : Int) + 1) i).length) := hid (fun h => l4 (by
            intro hn
            unfold Tp.Sof at hn
            rw [if_pos htl] at hn
            exact h (by rw [hr]; unfold found; rw [hn]; rfl)))
          have HIN : Hid (∀ e, r = some e → e ∈ es) := hid (fun e he => found_in (hr.symm.trans he))
          obtain ⟨la, hla⟩ : ∃ la, (Tp.treeL n es t i).length = la := ⟨_, rfl⟩
          obtain ⟨lb, hlb⟩ : ∃ lb, (Tp.treeL n es ((t : Int) + 1) i).length = lb := ⟨_, rfl⟩
          obtain ⟨lz, hlz⟩ : ∃ lz, (Tp.treeL n es L i).length = lz := ⟨_, rfl⟩
          rw [hla] at l1 l2 HRS
          rw [hlb] at l2 l3 HRS
          rw [hlz] at l3
          have HTA : Hid (∀ {w : World}, GM w (.slice A1 hs.length c1) (.slice A2 es.length c2) hs es → Calls Tryz.prog 7 #[grV n L R (.slice A1 hs.length c1) (.slice A2 es.length c2), .int .i64 ((t : Int)), .int .i64 (i : Int)] w (LenPost la w)) := hid (fun hm => by first | exact (sTree_ok hm HP.out (by omega) (by omega) i0 j0).mono fun _ _ h => tree_lenp hla h | (rw [show IntKind.i64.wrap ((t : Int) + 1) = (t : Int) + 1 by rw [IntKind.wrap_i64]; omega]; exact (sTree_ok hm HP.out (by omega) (by omega) i0 j0).mono fun _ _ h => tree_lenp hla h))
          have HTB : Hid (∀ {w : World}, GM w (.slice A1 hs.length c1) (.slice A2 es.length c2) hs es → Calls Tryz.prog 7 #[grV n L R (.slice A1 hs.length c1) (.slice A2 es.length c2), .int .i64 (IntKind.i64.wrap ((t : Int) + 1)), .int .i64 (i : Int)] w (LenPost lb w)) := hid (fun hm => by first | exact (sTree_ok hm HP.out (by omega) (by omega) i0 j0).mono fun _ _ h => tree_lenp hlb h | (rw [show IntKind.i64.wrap ((t : Int) + 1) = (t : Int) + 1 by rw [IntKind.wrap_i64]; omega]; exact (sTree_ok hm HP.out (by omega) (by omega) i0 j0).mono fun _ _ h => tree_lenp hlb h))
          have HTL : Hid (∀ {w : World}, GM w (.slice A1 hs.length c1) (.slice A2 es.length c2) hs es → Calls Tryz.prog 7 #[grV n L R (.slice A1 hs.length c1) (.slice A2 es.length c2), .int .i64 ((L : Int)), .int .i64 (i : Int)] w (LenPost lz w)) := hid (fun hm => by first | exact (sTree_ok hm HP.out (by omega) (by omega) i0 j0).mono fun _ _ h => tree_lenp hlz h | (rw [show IntKind.i64.wrap ((t : Int) + 1) = (t : Int) + 1 by rw [IntKind.wrap_i64]; omega]; exact (sTree_ok hm HP.out (by omega) (by omega) i0 j0).mono fun _ _ h => tree_lenp hlz h))
          have HSE : Hid (∀ {w : World}, GM w (.slice A1 hs.length c1) (.slice A2 es.length c2) hs es → Calls Tryz.prog 8 #[grV n L R (.slice A1 hs.length c1) (.slice A2 es.length c2), .int .i64 (t : Int), .int .i64 (i : Int)] w (SePost r w)) := hid (fun hm => by rw [hr]; exact sSearch_ok hm HP.out htl i0 j0)
          clear hr l4 hla hlb hlz
          have g0 := DGr.out.cell 0
          have g1 := DGr.out.cell 1
          have g2 := DGr.out.cell 2
          have g3 := DGr.out.cell 3
          have g4 := DGr.out.cell 4
          go_wp2_with fail
          go_region_held3 (fun w' => w'.cell? ⟨K7, 0, none⟩ = some (.int .i64 (n : Int)) ∧ w'.cell? ⟨K7, 1, none⟩ = some (.int .i64 (L : Int)) ∧ w'.cell? ⟨K7, 2, none⟩ = some (.int .i64 (R : Int)) ∧ w'.cell? ⟨K7, 3, none⟩ = some (.slice A1 hs.length c1) ∧ w'.cell? ⟨K7, 4, none⟩ = some (.slice A2 es.length c2))
            (first | go_keep | (go_split_ands; and_intros <;> (first | (refine cell_later (by assumption) ?_; first | assumption | (rw [Qt.cell (qt_of _ _)]; assumption) | (rw [Qt.cell (qt_drew _)]; assumption)) | (refine cell_later (bel_new _ _) ?_; assumption) | (rw [Qt.cell (by assumption)]; first | assumption | (rw [Qt.cell (qt_of _ _)]; assumption) | (rw [Qt.cell (qt_drew _)]; assumption)))))
            (first | (go_at_call 7; (with_reducible refine (HTA.out (by repeat (first | exact GMr.out | refine GM.new ?_ _ | refine GM.cqt ?_ (qt_drew _) | refine GM.cqt ?_ (qt_of _ _) | refine GM.call ?_ (by assumption) | refine GM.cqt ?_ (by assumption)))).mono ?_); rintro e wz ⟨Az, cz, rfl, bz⟩)
                   | (go_at_call 7; (with_reducible refine (HTB.out (by repeat (first | exact GMr.out | refine GM.new ?_ _ | refine GM.cqt ?_ (qt_drew _) | refine GM.cqt ?_ (qt_of _ _) | refine GM.call ?_ (by assumption) | refine GM.cqt ?_ (by assumption)))).mono ?_); rintro e wz ⟨Ab, cb, rfl, bz⟩))
          all_goals
            have HBA : Below wr.heap.size wr wz := Bl.call (Bl.call (Bl.qt (Below.refl _ _) (qt_drew _)) (by assumption)) (by assumption)
            replace DGr := hid (DGr.out.on HBA)
            replace DCr := hid (DCr.out.on HBA)
            replace GMr := hid (GMr.out.call HBA)
            replace HBr := hid (HBr.out.trans (HBA.mono HBr.out.size))
            clear HBA g0 g1 g2 g3 g4
            have g0 := DGr.out.cell 0
            have g1 := DGr.out.cell 1
            have g2 := DGr.out.cell 2
            have g3 := DGr.out.cell 3
            have g4 := DGr.out.cell 4
            have f1 : ((la : Int) == 0) = false := by simp; omega
            have f2 : ¬ (lb : Int) < (la : Int) := by omega
            go_wp2_with fail
            refine (HSE.out GMr.out).mono ?_; rintro e w4 ⟨rfl, b4⟩
            clear g0 g1 g2 g3 g4
            replace DGr := hid (DGr.out.on b4)
            replace DCr := hid (DCr.out.on b4)
            replace GMr := hid (GMr.out.call b4)
            replace HBr := hid (HBr.out.trans (b4.mono HBr.out.size))
            clear b4
            cases r with
            | none =>
              unfold seV
              have HB5 := hid (HBr.out.alloc HBr.out.size (.cells #[.int .i64 0, .int .i64 0, .int .i64 0] 35))
              go_wp2_with fail
              go_quiet (fail)
              go_wp2_with fail
              go_roundw
              case rel => exact ⟨t + 1, by go_num, by omega, hid (HB5.out.trans ((qt_of _ _).below _))⟩
              case measure => simp [intOf]; omega
            | some ed =>
              obtain ⟨x, y, tt⟩ := ed
              have hin := HIN.out _ rfl
              have hgi := HP.out.gd.in1 hin
              unfold Pt.InR at hgi
              dsimp only at hgi
              obtain ⟨⟨x1, x2⟩, y1, y2⟩ := hgi
              have hlt2 : la < lb := HRS.out (by simp)
              have f3 : ((lb : Int) == (la : Int)) = false := by simp; omega
              have f4 : ((lz : Int) == (la : Int)) = false := by simp; omega
              clear hin
              have HTX : Hid (∀ {w : World}, GM w (.slice A1 hs.length c1) (.slice A2 es.length c2) hs es → Calls Tryz.prog 7 #[grV n L R (.slice A1 hs.length c1) (.slice A2 es.length c2), .int .i64 (L : Int), .int .i64 x] w (TreePost (Tp.treeL n es L x) w)) := hid (fun hm => sTree_ok hm HP.out (by omega) (by omega) x1 x2)
              have HTY : Hid (∀ {w : World}, GM w (.slice A1 hs.length c1) (.slice A2 es.length c2) hs es → Calls Tryz.prog 7 #[grV n L R (.slice A1 hs.length c1) (.slice A2 es.length c2), .int .i64 (L : Int), .int .i64 y] w (TreePost (Tp.treeL n es L y) w)) := hid (fun hm => sTree_ok hm HP.out (by omega) (by omega) y1 y2)
              generalize Tp.treeL n es L x = tx at HTX
              generalize Tp.treeL n es L y = ty at HTY
              have bz := bel_new w4 (.cells #[.int .i64 x, .int .i64 y, .int .i64 tt] 35)
              obtain ⟨w5, hw5⟩ : ∃ W, W = w4.alloc (.cells #[.int .i64 x, .int .i64 y, .int .i64 tt] 35) := ⟨_, rfl⟩
              obtain ⟨KE, hKE⟩ : ∃ K, K = w4.heap.size := ⟨_, rfl⟩
              have DE : Hid (Blk w5 KE 35 [.int .i64 x, .int .i64 y, .int .i64 tt]) := hid (by rw [hw5, hKE]; exact Blk.new _ _ _)
              rw [← hw5] at bz
              replace DGr := hid (DGr.out.on bz)
              replace DCr := hid (DCr.out.on bz)
              replace GMr := hid (GMr.out.call bz)
              replace HBr := hid (HBr.out.trans (bz.mono HBr.out.size))
              have HW5 := hid hw5
              have HKE := hid hKE
              clear bz hw5 hKE
              unfold seV
              go_upto_region 14 with (fail)
              rw [← HW5.out, ← HKE.out]
              have g0 := DGr.out.cell 0
              have g1 := DGr.out.cell 1
              have g2 := DGr.out.cell 2
              have g3 := DGr.out.cell 3
              have g4 := DGr.out.cell 4
              have m1 := DCr.out.cell 1
              have e0 := DE.out.cell 0
              have e1 := DE.out.cell 1
              cases hsm : sameB tx ty with
              | true =>
                have HSM := hid hsm
                clear hsm
                refine wp_region_held_drew (S := fun w' => w'.cell? ⟨K7, 0, none⟩ = some (.int .i64 (n : Int)) ∧ w'.cell? ⟨K7, 1, none⟩ = some (.int .i64 (L : Int)) ∧ w'.cell? ⟨K7, 2, none⟩ = some (.int .i64 (R : Int)) ∧ w'.cell? ⟨K7, 3, none⟩ = some (.slice A1 hs.length c1) ∧ w'.cell? ⟨K7, 4, none⟩ = some (.slice A2 es.length c2) ∧ w'.cell? ⟨KC, 1, none⟩ = some (.int .i64 (L : Int)) ∧ w'.cell? ⟨KE, 0, none⟩ = some (.int .i64 x) ∧ w'.cell? ⟨KE, 1, none⟩ = some (.int .i64 y)) (by kernel_rfl) ⟨g0, g1, g2, g3, g4, m1, e0, e1⟩ (fun hHeld => ?_)
                refine wpAnyH_take (i := 0) (oi := _) (v := ?rv1) rfl (by kernel_rfl) (by kernel_rfl) (by kernel_rfl) (fun _ _ _ h => h) (Or.inl ⟨by rfl, ?ry1⟩) (by assumption) ?rr1
                case ry1 => (intro w hSw; obtain ⟨y0, y1, y2, y3, y4, y5, y6, y7⟩ := hSw; go_simp; try (with_reducible rfl))
                (try simp only [Act.put, putL])
                refine wpAnyH_take (i := 1) (oi := _) (v := ?rv2) rfl (by kernel_rfl) (by kernel_rfl) (by kernel_rfl) (fun _ _ _ h => h) (Or.inl ⟨by rfl, ?ry2⟩) (by assumption) ?rr2
                case ry2 => (intro w hSw; obtain ⟨y0, y1, y2, y3, y4, y5, y6, y7⟩ := hSw; go_simp; try (with_reducible rfl))
                (try simp only [Act.put, putL])
                refine wpAnyH_take (i := 2) (oi := _) (v := ?rv3) rfl (by kernel_rfl) (by kernel_rfl) (by kernel_rfl) (fun _ _ _ h => h) (Or.inl ⟨by rfl, ?ry3⟩) (by assumption) ?rr3
                case ry3 => (intro w hSw; obtain ⟨y0, y1, y2, y3, y4, y5, y6, y7⟩ := hSw; go_simp; try (with_reducible rfl))
                (try simp only [Act.put, putL])
                refine wpAnyH_take (i := 3) (oi := _) (v := ?rv4) rfl (by kernel_rfl) (by kernel_rfl) (by kernel_rfl) (fun _ _ _ h => h) (Or.inl ⟨by rfl, ?ry4⟩) (by assumption) ?rr4
                case ry4 => (intro w hSw; obtain ⟨y0, y1, y2, y3, y4, y5, y6, y7⟩ := hSw; go_simp; try (with_reducible rfl))
                (try simp only [Act.put, putL])
                refine wpAnyH_take (i := 4) (oi := _) (v := ?rv5) rfl (by kernel_rfl) (by kernel_rfl) (by kernel_rfl) (fun _ _ _ h => h) (Or.inl ⟨by rfl, ?ry5⟩) (by assumption) ?rr5
                case ry5 => (intro w hSw; obtain ⟨y0, y1, y2, y3, y4, y5, y6, y7⟩ := hSw; go_simp; try (with_reducible rfl))
                (try simp only [Act.put, putL])
                refine wpAnyH_take (i := 5) (oi := _) (v := ?rv6) rfl (by kernel_rfl) (by kernel_rfl) (by kernel_rfl) (fun _ _ _ h => h) (Or.inl ⟨by rfl, ?ry6⟩) (by assumption) ?rr6
                case ry6 => (intro w hSw; obtain ⟨y0, y1, y2, y3, y4, y5, y6, y7⟩ := hSw; go_simp; try (with_reducible rfl))
                (try simp only [Act.put, putL])
                refine wpAnyH_take (i := 6) (oi := _) (v := ?rv7) rfl (by kernel_rfl) (by kernel_rfl) (by kernel_rfl) (fun _ _ _ h => h) (Or.inl ⟨by rfl, ?ry7⟩) (by assumption) ?rr7
                case ry7 => (intro w hSw; obtain ⟨y0, y1, y2, y3, y4, y5, y6, y7⟩ := hSw; go_simp; try (with_reducible rfl))
                (try simp only [Act.put, putL])
                refine wpAnyH_take (i := 8) (oi := _) (v := ?rv8) rfl (by kernel_rfl) (by kernel_rfl) (by kernel_rfl) (fun _ _ _ h => h) (Or.inl ⟨by rfl, ?ry8⟩) (by assumption) ?rr8
                case ry8 => (intro w hSw; obtain ⟨y0, y1, y2, y3, y4, y5, y6, y7⟩ := hSw; go_simp; try (with_reducible rfl))
                (try simp only [Act.put, putL])
                refine wpAnyH_take (i := 9) (oi := _) (v := ?rv9) rfl (by kernel_rfl) (by kernel_rfl) (by kernel_rfl) (fun _ _ _ h => h) (Or.inl ⟨by rfl, ?ry9⟩) (by assumption) ?rr9
                case ry9 => (intro w hSw; obtain ⟨y0, y1, y2, y3, y4, y5, y6, y7⟩ := hSw; go_simp; try (with_reducible rfl))
                (try simp only [Act.put, putL])
                refine wpAnyH_take (i := 10) (oi := _) (v := ?rv10) rfl (by kernel_rfl) (by kernel_rfl) (by kernel_rfl) (fun _ _ _ h => h) (Or.inl ⟨by rfl, ?ry10⟩) (by assumption) ?rr10
                case ry10 => (intro w hSw; obtain ⟨y0, y1, y2, y3, y4, y5, y6, y7⟩ := hSw; go_simp; try (with_reducible rfl))
                (try simp only [Act.put, putL])
                refine wpAnyH_take (i := 11) (oi := _) (v := ?rv11) rfl (by kernel_rfl) (by kernel_rfl) (by kernel_rfl) (fun _ _ _ h => h) (Or.inl ⟨by rfl, ?ry11⟩) (by assumption) ?rr11
                case ry11 => (intro w hSw; obtain ⟨y0, y1, y2, y3, y4, y5, y6, y7⟩ := hSw; go_simp; try (with_reducible rfl))
                (try simp only [Act.put, putL])
                refine wpAnyH_take (i := 12) (oi := _) (v := ?rv12) rfl (by kernel_rfl) (by kernel_rfl) (by kernel_rfl) (fun _ _ _ h => h) (Or.inl ⟨by rfl, ?ry12⟩) (by assumption) ?rr12
                case ry12 => (intro w hSw; obtain ⟨y0, y1, y2, y3, y4, y5, y6, y7⟩ := hSw; go_simp; try (with_reducible rfl))
                (try simp only [Act.put, putL])
                refine wpAnyH_ready (rs := [7]) (by kernel_rfl) (by simp) ?_
                refine AllReadyH.cons (o := _) rfl (fun K hK => ?_) ?_
                · go_simp
                  go_at_call 7
                  refine (HTX.out (by repeat (first | exact GMr.out | refine GM.new ?_ _ | refine GM.cqt ?_ (qt_drew _) | refine GM.cqt ?_ (qt_of _ _) | refine GM.call ?_ (by assumption) | refine GM.cqt ?_ (by assumption)))).mono ?_
                  rintro e wx ⟨vx, rfl, sx, bx⟩
                  obtain ⟨Ax, cx, hvx, _, _, _, _⟩ := id sx
                  subst hvx
                  refine hK.out _ _ ?_ (fun hHeld => ?_)
                  · exact ⟨cell_later bx hHeld.1, cell_later bx hHeld.2.1, cell_later bx hHeld.2.2.1, cell_later bx hHeld.2.2.2.1, cell_later bx hHeld.2.2.2.2.1, cell_later bx hHeld.2.2.2.2.2.1, cell_later bx hHeld.2.2.2.2.2.2.1, cell_later bx hHeld.2.2.2.2.2.2.2⟩
                  clear hK K
                  (try simp only [Act.put, putL])
                  refine wpAnyH_ready (rs := [13]) (by kernel_rfl) (by simp) ?_
                  refine AllReadyH.cons (o := _) rfl (fun K hK => ?_) ?_
                  · go_simp
                    go_at_call 7
                    refine (HTY.out (by repeat (first | exact GMr.out | refine GM.new ?_ _ | refine GM.cqt ?_ (qt_drew _) | refine GM.cqt ?_ (qt_of _ _) | refine GM.call ?_ (by assumption) | refine GM.cqt ?_ (by assumption)))).mono ?_
                    rintro e wy ⟨vy, rfl, sy, by_⟩
                    obtain ⟨Ay, cy, hvy, _, _, _, _⟩ := id sy
                    subst hvy
                    refine hK.out _ _ ?_ (fun hHeld => ?_)
                    · exact ⟨cell_later by_ hHeld.1, cell_later by_ hHeld.2.1, cell_later by_ hHeld.2.2.1, cell_later by_ hHeld.2.2.2.1, cell_later by_ hHeld.2.2.2.2.1, cell_later by_ hHeld.2.2.2.2.2.1, cell_later by_ hHeld.2.2.2.2.2.2.1, cell_later by_ hHeld.2.2.2.2.2.2.2⟩
                    clear hK K
                    (try simp only [Act.put, putL])
                    refine wpAnyH_ready (rs := [14]) (by kernel_rfl) (by simp) ?_
                    refine AllReadyH.cons (o := _) rfl (fun K hK => ?_) ?_
                    · go_simp
                      go_at_call 9
                      refine (same_tp true HSM.out (by repeat (first | exact sx | refine Sl.new ?_ _ | refine Sl.cqt ?_ (qt_drew _) | refine Sl.cqt ?_ (qt_of _ _) | refine Sl.call ?_ (by assumption) | refine Sl.cqt ?_ (by assumption))) (by repeat (first | exact sy | refine Sl.new ?_ _ | refine Sl.cqt ?_ (qt_drew _) | refine Sl.cqt ?_ (qt_of _ _) | refine Sl.call ?_ (by assumption) | refine Sl.cqt ?_ (by assumption)))).mono ?_
                      rintro e wz ⟨rfl, bq⟩
                      have bqb := bq.bel
                      refine hK.out _ _ ?_ (fun hHeld => ?_)
                      · exact ⟨cell_later bqb hHeld.1, cell_later bqb hHeld.2.1, cell_later bqb hHeld.2.2.1, cell_later bqb hHeld.2.2.2.1, cell_later bqb hHeld.2.2.2.2.1, cell_later bqb hHeld.2.2.2.2.2.1, cell_later bqb hHeld.2.2.2.2.2.2.1, cell_later bqb hHeld.2.2.2.2.2.2.2⟩
                      clear hK K
                      (try simp only [Act.put, putL])
                      refine wpAnyH_take (i := 15) (oi := _) (v := ?rv13) rfl (by kernel_rfl) (by kernel_rfl) (by kernel_rfl) (fun _ _ _ h => h) (Or.inl ⟨by rfl, ?ry13⟩) (by assumption) ?rr13
                      case ry13 => (intro w hSw; obtain ⟨y0, y1, y2, y3, y4, y5, y6, y7⟩ := hSw; go_simp; try (with_reducible rfl))
                      (try simp only [Act.put, putL])
                      refine wpAnyH_take (i := 16) (oi := _) (v := ?rv14) rfl (by kernel_rfl) (by kernel_rfl) (by kernel_rfl) (fun _ _ _ h => h) (Or.inl ⟨by rfl, ?ry14⟩) (by assumption) ?rr14
                      case ry14 => (intro w hSw; obtain ⟨y0, y1, y2, y3, y4, y5, y6, y7⟩ := hSw; go_simp; try (with_reducible rfl))
                      (try simp only [Act.put, putL])
                      refine wpAnyH_take (i := 17) (oi := _) (v := ?rv15) rfl (by kernel_rfl) (by kernel_rfl) (by kernel_rfl) (fun _ _ _ h => h) (Or.inl ⟨by rfl, ?ry15⟩) (by assumption) ?rr15
                      case ry15 => (intro w hSw; obtain ⟨y0, y1, y2, y3, y4, y5, y6, y7⟩ := hSw; go_simp; try (with_reducible rfl))
                      (try simp only [Act.put, putL])
                      refine wpAnyH_take (i := 18) (oi := _) (v := undef) rfl (by kernel_rfl) (by kernel_rfl) (by kernel_rfl) (fun _ _ _ h => h) (Or.inr ⟨by rfl, rfl⟩) (by assumption) ?rs18_81
                      (try simp only [Act.put, putL])
                      refine wpAnyH_take (i := 19) (oi := _) (v := undef) rfl (by kernel_rfl) (by kernel_rfl) (by kernel_rfl) (fun _ _ _ h => h) (Or.inr ⟨by rfl, rfl⟩) (by assumption) ?rs19_83
                      (try simp only [Act.put, putL])
                      refine wpAnyH_take (i := 20) (oi := _) (v := undef) rfl (by kernel_rfl) (by kernel_rfl) (by kernel_rfl) (fun _ _ _ h => h) (Or.inr ⟨by rfl, rfl⟩) (by assumption) ?rs20_85
                      (try simp only [Act.put, putL])
                      refine wpAnyH_take (i := 21) (oi := _) (v := undef) rfl (by kernel_rfl) (by kernel_rfl) (by kernel_rfl) (fun _ _ _ h => h) (Or.inr ⟨by rfl, rfl⟩) (by assumption) ?rs21_87
                      (try simp only [Act.put, putL])
                      refine wpAnyH_take (i := 22) (oi := _) (v := undef) rfl (by kernel_rfl) (by kernel_rfl) (by kernel_rfl) (fun _ _ _ h => h) (Or.inr ⟨by rfl, rfl⟩) (by assumption) ?rs22_89
                      (try simp only [Act.put, putL])
                      refine wpAnyH_take (i := 23) (oi := _) (v := undef) rfl (by kernel_rfl) (by kernel_rfl) (by kernel_rfl) (fun _ _ _ h => h) (Or.inr ⟨by rfl, rfl⟩) (by assumption) ?rs23_91
                      (try simp only [Act.put, putL])
                      refine wpAnyH_take (i := 24) (oi := _) (v := undef) rfl (by kernel_rfl) (by kernel_rfl) (by kernel_rfl) (fun _ _ _ h => h) (Or.inr ⟨by rfl, rfl⟩) (by assumption) ?rs24_93
                      (try simp only [Act.put, putL])
                      refine wpAnyH_take (i := 25) (oi := _) (v := undef) rfl (by kernel_rfl) (by kernel_rfl) (by kernel_rfl) (fun _ _ _ h => h) (Or.inr ⟨by rfl, rfl⟩) (by assumption) ?rs25_95
                      (try simp only [Act.put, putL])
                      refine wpAnyH_take (i := 26) (oi := _) (v := undef) rfl (by kernel_rfl) (by kernel_rfl) (by kernel_rfl) (fun _ _ _ h => h) (Or.inr ⟨by rfl, rfl⟩) (by assumption) ?rs26_97
                      (try simp only [Act.put, putL])
                      refine wpAnyH_take (i := 27) (oi := _) (v := ?rv16) rfl (by kernel_rfl) (by kernel_rfl) (by kernel_rfl) (fun _ _ _ h => h) (Or.inl ⟨by rfl, ?ry16⟩) (by assumption) ?rr16
                      case ry16 => (intro w hSw; obtain ⟨y0, y1, y2, y3, y4, y5, y6, y7⟩ := hSw; go_simp; try (with_reducible rfl))
                      (try simp only [Act.put, putL])
                      refine wpAnyH_done (by kernel_rfl) ?_ _
                      have HBA : Below w5.heap.size w5 wz := by repeat (first | exact Below.refl _ _ | refine Bl.call ?_ (by assumption) | refine Bl.qt ?_ (by assumption) | refine Bl.qt ?_ (qt_drew _) | refine Bl.qt ?_ (qt_of _ _))
                      have HB5 := hid (HBr.out.trans (HBA.mono HBr.out.size))
                      clear HBA g0 g1 g2 g3 g4 m1 e0 e1
                      go_wp2_with fail
                      go_roundw
                      case rel => exact ⟨t + 1, by go_num, by omega, HB5⟩
                      case measure => simp [intOf]; omega
                    exact AllReadyH.nil
                  exact AllReadyH.nil
                exact AllReadyH.nil
              | false =>
                have HSM := hid hsm
                clear hsm
                go_region_held3 (fun w' => w'.cell? ⟨K7, 0, none⟩ = some (.int .i64 (n : Int)) ∧ w'.cell? ⟨K7, 1, none⟩ = some (.int .i64 (L : Int)) ∧ w'.cell? ⟨K7, 2, none⟩ = some (.int .i64 (R : Int)) ∧ w'.cell? ⟨K7, 3, none⟩ = some (.slice A1 hs.length c1) ∧ w'.cell? ⟨K7, 4, none⟩ = some (.slice A2 es.length c2) ∧ w'.cell? ⟨KC, 1, none⟩ = some (.int .i64 (L : Int)) ∧ w'.cell? ⟨KE, 0, none⟩ = some (.int .i64 x) ∧ w'.cell? ⟨KE, 1, none⟩ = some (.int .i64 y))
                  (first | go_keep | (go_split_ands; and_intros <;> (first | (refine cell_later (by assumption) ?_; first | assumption | (rw [Qt.cell (qt_of _ _)]; assumption) | (rw [Qt.cell (qt_drew _)]; assumption)) | (refine cell_later (bel_new _ _) ?_; assumption) | (rw [Qt.cell (by assumption)]; first | assumption | (rw [Qt.cell (qt_of _ _)]; assumption) | (rw [Qt.cell (qt_drew _)]; assumption)))))
                  (first | (go_at_call 7; (with_reducible refine (HTX.out (by repeat (first | exact GMr.out | refine GM.new ?_ _ | refine GM.cqt ?_ (qt_drew _) | refine GM.cqt ?_ (qt_of _ _) | refine GM.call ?_ (by assumption) | refine GM.cqt ?_ (by assumption)))).mono ?_); rintro e wz ⟨vx, rfl, sx, bx⟩; obtain ⟨Ax, cx, hvx, _, _, _, _⟩ := id sx; subst hvx) | (go_at_call 7; (with_reducible refine (HTY.out (by repeat (first | exact GMr.out | refine GM.new ?_ _ | refine GM.cqt ?_ (qt_drew _) | refine GM.cqt ?_ (qt_of _ _) | refine GM.call ?_ (by assumption) | refine GM.cqt ?_ (by assumption)))).mono ?_); rintro e wz ⟨vy, rfl, sy, by_⟩; obtain ⟨Ay, cy, hvy, _, _, _, _⟩ := id sy; subst hvy) | (go_at_call 9; (with_reducible refine (same_tp false HSM.out (by repeat (first | exact sx | refine Sl.new ?_ _ | refine Sl.cqt ?_ (qt_drew _) | refine Sl.cqt ?_ (qt_of _ _) | refine Sl.call ?_ (by assumption) | refine Sl.cqt ?_ (by assumption))) (by repeat (first | exact sy | refine Sl.new ?_ _ | refine Sl.cqt ?_ (qt_drew _) | refine Sl.cqt ?_ (qt_of _ _) | refine Sl.call ?_ (by assumption) | refine Sl.cqt ?_ (by assumption)))).mono ?_); rintro e wz ⟨rfl, bq⟩) | (go_at_call 7; (with_reducible refine (HTL.out (by repeat (first | exact GMr.out | refine GM.new ?_ _ | refine GM.cqt ?_ (qt_drew _) | refine GM.cqt ?_ (qt_of _ _) | refine GM.call ?_ (by assumption) | refine GM.cqt ?_ (by assumption)))).mono ?_); rintro e wz ⟨Al, cl, rfl, bl⟩))
                all_goals
                  have HBA : Below w5.heap.size w5 wz := by repeat (first | exact Below.refl _ _ | refine Bl.call ?_ (by assumption) | refine Bl.qt ?_ (by assumption) | refine Bl.qt ?_ (qt_drew _) | refine Bl.qt ?_ (qt_of _ _))
                  have HB5 := hid (HBr.out.trans (HBA.mono HBr.out.size))
                  clear HBA g0 g1 g2 g3 g4 m1 e0 e1
                  go_wp2_with fail
                  go_roundw
                  case rel => exact ⟨t + 1, by go_num, by omega, HB5⟩
                  case measure => simp [intOf]; omega
        case neg =>
          have j1 : ¬ (t : Int) < (L : Int) := by omega
          go_wp2_with fail
          go_roundw
          case rel => exact ⟨i + 1, by go_num, by omega, HBr⟩
          case measure => simp [intOf]; omega
    case neg =>
      have j0 : ¬ (i : Int) < (n : Int) := by omega
      go_wp2_with fail
      refine (HAW.out _).mono ?_; rintro e w9 ⟨rfl, b9⟩
      have HB9 := hid (Bl.call (HB.out.trans (HBr.out.mono HB.out.size)) b9)
      clear b9
      go_wp2
      go_ret
      exact ⟨rfl, HB9.out⟩
end Go.Proofs.YtahodfikhocobaaGreatDoor
