/- The texts TpA, SnF, SkB, SkC, SkD, merged. No theorem here is a claim by itself. -/
import Derived.Test.YtahodfikhocobaaGreatDoorMb3
import Derived.Test.YtahodfikhocobaaGreatDoorMb4
import Derived.Deep.RegionHeld3
import Derived.Laws.Bits64
namespace Go.Proofs.YtahodfikhocobaaGreatDoor
open Go.RowKit
set_option linter.unusedVariables false
set_option linter.unusedSimpArgs false
attribute [local go_sem ↓] Go.wp_at_zero Go.wp_at_succ
def fiV : Option Nat → Value
 | some i => .tuple #[.int .i64 (i : Int), .bool true]
 | none => .tuple #[.int .i64 0, .bool false]
theorem fi_here {l : List (Int × Int × Int)} {u v : Int} {i : Nat} (h : i < l.length) (hb : Tp.fiB u v (l[i].1, l[i].2.1) = true) (hp : ∀ j, (h : j < l.length) → j < i → Tp.fiB u v (l[j].1, l[j].2.1) = false) : Tp.fiP (Pt.uv l) u v = some i := by
 refine List.findIdx?_eq_some_iff_getElem.2 ⟨by simp [Pt.uv, h], by simpa [Pt.uv] using hb, fun j hj => ?_⟩
 have := hp j (by omega) hj
 simpa [Pt.uv] using this
theorem fi_nowhere {l : List (Int × Int × Int)} {u v : Int} (hp : ∀ j, (h : j < l.length) → j < l.length → Tp.fiB u v (l[j].1, l[j].2.1) = false) : Tp.fiP (Pt.uv l) u v = none := by
 refine List.findIdx?_eq_none_iff.2 fun x hx => ?_
 obtain ⟨e, he, rfl⟩ := Tp.uv_mem.1 hx
 obtain ⟨j, hj, rfl⟩ := List.mem_iff_getElem.1 he
 exact hp j hj hj
theorem fi_next {l : List (Int × Int × Int)} {u v : Int} {i : Nat} (hp : ∀ j, (h : j < l.length) → j < i → Tp.fiB u v (l[j].1, l[j].2.1) = false) (hb : ∀ h : i < l.length, Tp.fiB u v (l[i].1, l[i].2.1) = false) : ∀ j, (h : j < l.length) → j < i + 1 → Tp.fiB u v (l[j].1, l[j].2.1) = false := by
 intro j h hj
 rcases Nat.lt_or_ge j i with h3 | h3
 · exact hp j h h3
 ·
  have : j = i := by omega
  subst this; exact hb h
theorem fiB_yes {x y u v : Int} (h : Tp.fiB u v (x, y) = true) : ((x == u) = true ∧ (y == v) = true) ∨ ((x == u) = true ∧ (y == v) = false ∧ (x == v) = true ∧ (y == u) = true) ∨ ((x == u) = false ∧ (x == v) = true ∧ (y == u) = true) := by
 unfold Tp.fiB at h
 cases h1 : (x == u) <;> cases h2 : (y == v) <;> cases h3 : (x == v) <;> cases h4 : (y == u) <;> simp_all
theorem fiB_no {x y u v : Int} (h : Tp.fiB u v (x, y) = false) : ((x == u) = true ∧ (y == v) = false ∧ (x == v) = true ∧ (y == u) = false) ∨ ((x == u) = true ∧ (y == v) = false ∧ (x == v) = false) ∨ ((x == u) = false ∧ (x == v) = true ∧ (y == u) = false) ∨ ((x == u) = false ∧ (x == v) = false) := by
 unfold Tp.fiB at h
 cases h1 : (x == u) <;> cases h2 : (y == v) <;> cases h3 : (x == v) <;> cases h4 : (y == u) <;> simp_all
set_option maxRecDepth 100000 in
set_option maxHeartbeats 8000000 in
theorem nfind_any {v0 : Value} {m : Nat} {l : List (Int × Int × Int)} {u v : Int} {w : World} (hs : Sl w w.heap.size 3 v0 m (eds l)) :
  Calls Tryz.prog 26 #[v0, .int .i64 u, .int .i64 v] w fun e w' => e = .returned (fiV (Tp.fiP (Pt.uv l) u v)) ∧ Below w.heap.size w w' := by
 have hl : l.length = m := by have := hs.len; rw [len_eds] at this; omega
 obtain ⟨A, c, rfl, hnc, hcm, hll, hx⟩ := hs
 have hm : m ≤ 9223372036854775807 := by unfold maxLen at hcm; omega
 have HX := hid hx
 have HL := hid hl
 clear hx hll hl hcm hnc
 go_enter Tryz.func26, Tryz.ntmps26
 go_wp2_with fail
 go_loopw [12] (fun iv wr => ∃ i : Nat, i ≤ m ∧ iv = .int .i64 (i : Int) ∧ Hid (∀ j, (h : j < l.length) → j < i → Tp.fiB u v (l[j].1, l[j].2.1) = false) ∧ Hid (Below w.heap.size w wr)) (fun iv _ => m - (intOf iv).toNat)
 case atStart => exact ⟨0, Nat.zero_le _, rfl, hid (fun j _ hj => absurd hj (Nat.not_lt_zero _)), hid (Below.refl _ _)⟩
 case round =>
  obtain ⟨i, hi, rfl, HP, HBr⟩ := hrel
  by_cases hlt : i < m
  ·
   have j0 : (i : Int) < (m : Int) := by omega
   have hil : i < l.length := by rw [HL.out]; exact hlt
   obtain ⟨b6, o6, rfl, hb6, hc6⟩ := HX.out (by omega)
   obtain ⟨p0, p1, p2⟩ := eds_cell hc6 hil
   have q0 := (HBr.out.cell (p := ⟨b6, o6 + i * 3, none⟩) hb6).trans p0
   have q1 := (HBr.out.cell (p := ⟨b6, o6 + i * 3 + 1, none⟩) hb6).trans p1
   have q2 := (HBr.out.cell (p := ⟨b6, o6 + i * 3 + 2, none⟩) hb6).trans p2
   have HY := hid (fun h => fi_here (u := u) (v := v) hil h HP.out)
   have HNX := hid (fun h : Tp.fiB u v (l[i].1, l[i].2.1) = false => fi_next HP.out (fun _ => h))
   obtain ⟨e, he⟩ : ∃ e, e = l[i] := ⟨_, rfl⟩
   rw [← he] at q0 q1 q2 HY HNX
   obtain ⟨x, y, t⟩ := e
   dsimp only at q0 q1 q2 HY HNX
   clear he p0 p1 p2 hc6 hil
   have HBN := hid (Bl.new HBr.out (.cells #[.int .i64 x, .int .i64 y, .int .i64 t] 35))
   cases hb : Tp.fiB u v (x, y) with
   | true =>
    have HR := hid (HY.out hb)
    have hc := fiB_yes hb
    clear HY HNX hb
    rcases hc with ⟨e1, e2⟩ | ⟨e1, e2, e3, e4⟩ | ⟨e1, e3, e4⟩
    all_goals
     go_wp2
     go_ret2
     exact ⟨by rw [HR.out]; rfl, HBN.out⟩
   | false =>
    have HN := hid (HNX.out hb)
    have hc := fiB_no hb
    clear HY HNX hb
    rcases hc with ⟨e1, e2, e3, e4⟩ | ⟨e1, e2, e3⟩ | ⟨e1, e3, e4⟩ | ⟨e1, e3⟩
    all_goals
     go_wp2_with fail
     go_roundw
     case rel => exact ⟨i + 1, by omega, by go_num, HN, HBN⟩
     case measure => simp [intOf]; omega
  ·
   have j0 : ¬ (i : Int) < (m : Int) := by omega
   obtain rfl : i = m := by omega
   have HR : Hid (Tp.fiP (Pt.uv l) u v = none) := hid (fi_nowhere (fun j h hj => HP.out j h (by rw [← HL.out]; exact hj)))
   go_wp2
   go_ret2
   exact ⟨by rw [HR.out]; rfl, HBr.out⟩
theorem nfind_is {v0 : Value} {m : Nat} {l : List (Int × Int × Int)} {u v : Int} {w : World} (hs : Sl w w.heap.size 3 v0 m (eds l)) {i : Nat} (h : Tp.fiP (Pt.uv l) u v = some i) :
  Calls Tryz.prog 26 #[v0, .int .i64 u, .int .i64 v] w fun e w' => e = .returned (.tuple #[.int .i64 (i : Int), .bool true]) ∧ Below w.heap.size w w' := by
 have := nfind_any (u := u) (v := v) hs
 rw [h] at this; exact this
theorem nfind_no {v0 : Value} {m : Nat} {l : List (Int × Int × Int)} {u v : Int} {w : World} (hs : Sl w w.heap.size 3 v0 m (eds l)) (h : Tp.fiP (Pt.uv l) u v = none) :
  Calls Tryz.prog 26 #[v0, .int .i64 u, .int .i64 v] w fun e w' => e = .returned (.tuple #[.int .i64 0, .bool false]) ∧ Below w.heap.size w w' := by
 have := nfind_any (u := u) (v := v) hs
 rw [h] at this; exact this
theorem nvertex_yes {v : Int} (h1 : 0 ≤ v) (h2 : v < 16777216) (w : World) : Calls Tryz.prog 99 #[.int .i64 v] w fun e w' => e = .returned (.bool true) ∧ w = w' := by
 go_enter Tryz.func99, Tryz.ntmps99
 go_wp2
 go_ret
 exact ⟨rfl, rfl⟩
theorem nof_ok {x y z : Int} (a1 : 0 ≤ x) (a8 : x < y) (h2 : y ≤ 2000) (hz : x * 16777216 + y = z) (w : World) : Calls Tryz.prog 77 #[.int .i64 x, .int .i64 y] w fun e w' => e = .returned (.tuple #[.int .u64 z, .int .i64 0]) ∧ w = w' := by
 have HZ := hid hz
 clear hz
 have a2 : x < 16777216 := by omega
 have a3 : 0 ≤ y := by omega
 have a4 : y < 16777216 := by omega
 have a5 : (x == y) = false := by simp; omega
 have a6 : x ≤ y := by omega
 have a7 : ¬ y ≤ x := by omega
 have a9 : ¬ y < x := by omega
 go_enter Tryz.func77, Tryz.ntmps77
 go_wp2_with fail
 refine (nvertex_yes a1 a2 _).mono ?_; rintro e w' ⟨rfl, rfl⟩
 go_wp2_with fail
 refine (nvertex_yes a3 a4 _).mono ?_; rintro e w' ⟨rfl, rfl⟩
 go_wp2
 go_ret2
 exact ⟨by rw [← HZ.out]; rfl, rfl⟩
set_option maxRecDepth 100000 in
set_option maxHeartbeats 8000000 in
theorem cfits_yes {n : Int} {v0 v1 : Value} {m k : Nat} {l : List (Int × Int × Int)} {p : List Int} {w : World} (hs : Sl w w.heap.size 3 v0 m (eds l)) (ht : TabR n l) (h1 : Sl w w.heap.size 1 v1 k (ints p)) (hp : ∀ x ∈ p, 0 ≤ x ∧ x < n) :
  Calls Tryz.prog 73 #[.int .i64 n, v0, v1] w fun e w' => e = .returned (.bool true) ∧ Below w.heap.size w w' := by
 have hl : p.length = k := by have := h1.len; rw [len_ints] at this; omega
 have HT := hid ht
 have HS := hid hs
 obtain ⟨A, c, rfl, hnc, hcm, hll, hx⟩ := h1
 have hm : k ≤ 9223372036854775807 := by unfold maxLen at hcm; omega
 have HX := hid hx
 have HL := hid hl
 have HP := hid hp
 clear hx hll hl hcm hnc hp ht hs
 go_enter Tryz.func73, Tryz.ntmps73
 go_wp2_with fail
 refine (tright_is HS.out true ⟨fun _ => rfl, fun _ => HT.out⟩).mono ?_; rintro e w2 ⟨rfl, b2⟩
 have HB2 := hid b2
 clear b2
 go_wp2_with fail
 go_loopw [15] (fun iv wr => ∃ i : Nat, i ≤ k ∧ iv = .int .i64 (i : Int) ∧ w2 = wr) (fun iv _ => k - (intOf iv).toNat)
 case atStart => exact ⟨0, Nat.zero_le _, rfl, by trivial⟩
 case round =>
  obtain ⟨i, hi, rfl, rfl⟩ := hrel
  by_cases hlt : i < k
  ·
   have j0 : (i : Int) < (k : Int) := by omega
   have hil : i < p.length := by rw [HL.out]; exact hlt
   obtain ⟨b6, o6, rfl, hb6, hc6⟩ := HX.out (by omega)
   have p0 := ints_cell hc6 hil
   have q0 := (HB2.out.cell (p := ⟨b6, o6 + i, none⟩) hb6).trans p0
   have hr := HP.out (p.getD i 0) (by rw [List.getD_eq_getElem?_getD, List.getElem?_eq_getElem hil]; exact List.getElem_mem hil)
   generalize p.getD i 0 = x at q0 p0 hr
   obtain ⟨r1, r2⟩ := hr
   clear hc6 p0
   go_wp2_with fail
   go_roundw
   case rel => exact ⟨i + 1, by omega, by go_num, by trivial⟩
   case measure => simp [intOf]; omega
  ·
   have j0 : ¬ (i : Int) < (k : Int) := by omega
   go_wp2
   go_ret
   exact ⟨rfl, HB2.out⟩
def bls (l : List Bool) : List Value := l.map .bool
theorem len_bls (l : List Bool) : (bls l).length = l.length := by simp [bls]
theorem bls_at (l : List Bool) (k : Nat) (h : k < l.length) : (bls l)[k]? = some (.bool (l.getD k false)) := by simp [bls, h, List.getD]
def unl (l : List (Int × Int × Int)) (bs : List Bool) : List (Int × Int × Int) := l.filter fun e => bs.getD e.1.toNat false != bs.getD e.2.1.toNat false
theorem unl_step {l : List (Int × Int × Int)} {bs : List Bool} {j : Nat} (h : j < l.length) (b1 b2 : Bool) (h1 : bs.getD l[j].1.toNat false = b1) (h2 : bs.getD l[j].2.1.toNat false = b2) : unl (l.take (j + 1)) bs = unl (l.take j) bs ++ (if (b1 != b2) = true then [l[j]] else []) := by
 unfold unl
 rw [List.take_succ_eq_append_getElem h, List.filter_append, List.filter_cons, h1, h2]
 rfl
set_option maxRecDepth 100000 in
set_option maxHeartbeats 8000000 in
theorem unlike_any {v0 v1 : Value} {m k : Nat} {l : List (Int × Int × Int)} {bs : List Bool} {w : World} (hs : Sl w w.heap.size 3 v0 m (eds l)) (h1 : Sl w w.heap.size 1 v1 k (bls bs)) (hin : ∀ e ∈ l, (0 ≤ e.1 ∧ e.1 < (k : Int)) ∧ (0 ≤ e.2.1 ∧ e.2.1 < (k : Int))) (hm : m ≤ 1000000) :
  Calls Tryz.prog 74 #[v0, v1] w (FrsPost w (unl l bs)) := by
 have hl : l.length = m := by have := hs.len; rw [len_eds] at this; omega
 have hl1 : bs.length = k := by have := h1.len; rw [len_bls] at this; omega
 obtain ⟨A, c, rfl, hnc, hcm, hll, hx⟩ := hs
 obtain ⟨A1, c1, rfl, hnc1, hcm1, hll1, hx1⟩ := h1
 have hk : k ≤ 9223372036854775807 := by unfold maxLen at hcm1; omega
 have HX := hid hx
 have HX1 := hid hx1
 have HL := hid hl
 have HL1 := hid hl1
 have HIN := hid hin
 clear hx hll hl hcm hnc hx1 hll1 hl1 hcm1 hnc1 hin
 go_enter Tryz.func74, Tryz.ntmps74
 go_wp2_with fail
 go_loopw [5, 10] (fun ov iv wr => ∃ (i q : Nat), i ≤ m ∧ iv = .int .i64 (i : Int) ∧ q ≤ i ∧ Hid ((unl (l.take i) bs).length = q) ∧ Hid (wr.ownsRow w.heap.size 35 3 ov q (eds (unl (l.take i) bs))) ∧ Hid (Below w.heap.size w wr)) (fun _ iv _ => m - (intOf iv).toNat)
 case atStart => exact ⟨0, 0, Nat.zero_le _, rfl, Nat.le_refl _, hid rfl, hid (World.ownsRow_nil _ _ _ _), hid (Below.refl _ _)⟩
 case round =>
  obtain ⟨i, q, hi, rfl, hqi, HQ, HO, HB⟩ := hrel
  by_cases hlt : i < m
  ·
   have j0 : (i : Int) < (m : Int) := by omega
   have hil : i < l.length := by rw [HL.out]; exact hlt
   obtain ⟨b6, o6, rfl, hb6, hc6⟩ := HX.out (by omega)
   obtain ⟨p0, p1, p2⟩ := eds_cell hc6 hil
   have q0 := (HB.out.cell (p := ⟨b6, o6 + i * 3, none⟩) hb6).trans p0
   have q1 := (HB.out.cell (p := ⟨b6, o6 + i * 3 + 1, none⟩) hb6).trans p1
   have q2 := (HB.out.cell (p := ⟨b6, o6 + i * 3 + 2, none⟩) hb6).trans p2
   have HST := hid (fun b1 b2 h1 h2 => unl_step (bs := bs) hil b1 b2 h1 h2)
   obtain ⟨⟨e1, e2⟩, e3, e4⟩ := HIN.out l[i] (List.getElem_mem hil)
   obtain ⟨e, he⟩ : ∃ e, e = l[i] := ⟨_, rfl⟩
   rw [← he] at q0 q1 q2 HST e1 e2 e3 e4
   obtain ⟨x, y, t⟩ := e
   dsimp only at q0 q1 q2 e1 e2 e3 e4 HST
   obtain ⟨xn, rfl⟩ := Int.eq_ofNat_of_zero_le e1
   obtain ⟨yn, rfl⟩ := Int.eq_ofNat_of_zero_le e3
   obtain ⟨b7, o7, rfl, hb7, hc7⟩ := HX1.out (by omega)
   have m1 := hc7 xn _ (bls_at bs xn (by rw [HL1.out]; omega))
   have m2 := hc7 yn _ (bls_at bs yn (by rw [HL1.out]; omega))
   have r1 := cell_later (bel_new wr (.cells #[.int .i64 (xn : Int), .int .i64 (yn : Int), .int .i64 t] 35)) ((HB.out.cell (p := ⟨b7, o7 + xn, none⟩) hb7).trans m1)
   have r2 := cell_later (bel_new wr (.cells #[.int .i64 (xn : Int), .int .i64 (yn : Int), .int .i64 t] 35)) ((HB.out.cell (p := ⟨b7, o7 + yn, none⟩) hb7).trans m2)
   have HH := hid (HST.out (bs.getD xn false) (bs.getD yn false) (by rw [Int.toNat_natCast]) (by rw [Int.toNat_natCast]))
   generalize bs.getD xn false = b1 at HH r1 m1
   generalize bs.getD yn false = b2 at HH r2 m2
   clear he p0 p1 p2 hc6 hc7 HST m1 m2
   have HBN := hid (HB.out.alloc HB.out.size (.cells #[.int .i64 (xn : Int), .int .i64 (yn : Int), .int .i64 t] 35))
   have HO2 := hid (HO.out.alloc (.cells #[.int .i64 (xn : Int), .int .i64 (yn : Int), .int .i64 t] 35))
   have HH2 : ∀ n, Hid (((wr.alloc (.cells #[.int .i64 (xn : Int), .int .i64 (yn : Int), .int .i64 t] 35)).drewN n).heap.size = wr.heap.size + 1) := fun n => hid (by simp)
   have HZ := HBN.out.size
   have hby : (q + 1) * 24 ≤ 140737488355328 := by omega
   cases b1 <;> cases b2
   case false.false | true.true =>
    have HN : Hid (unl (l.take (i + 1)) bs = unl (l.take i) bs) := hid (by rw [HH.out]; simp)
    clear HH
    go_wp2_with fail
    go_quiet (fail)
    go_wp2_with fail
    go_roundw
    case rel => exact ⟨i + 1, q, by omega, by go_num, by omega, hid (by rw [HN.out]; exact HQ.out), hid (by rw [HN.out]; exact own_below HO2.out (qt_of _ _).bel), hid (HBN.out.trans ((qt_of _ _).below _))⟩
    case measure => simp [intOf]; omega
   case false.true | true.false =>
    have HN : Hid (unl (l.take (i + 1)) bs = unl (l.take i) bs ++ [((xn : Int), (yn : Int), t)]) := hid (by rw [HH.out]; simp)
    clear HH
    go_wp2_with fail
    go_quiet (fail)
    go_wp2_with (at_builtin; (refine wl_app1H rfl _ _ Tedg rfl (news := [.int .i64 (xn : Int), .int .i64 (yn : Int), .int .i64 t]) rfl (own_below HO2.out (qt_of _ _).bel) rfl (HH2 _).out rfl (eds_one [((xn : Int), (yn : Int), t)]) hby (Nat.le_trans HZ (Nat.le_of_eq (Qt.size (qt_of _ _)).symm)) ?_))
    intro v9 w9 o9 b9
    have O9 : Hid (w9.ownsRow w.heap.size 35 3 v9 (q + 1) (eds (unl (l.take (i + 1)) bs))) := hid (by rw [HN.out, ← eds_app]; exact o9)
    have HQ9 : Hid ((unl (l.take (i + 1)) bs).length = q + 1) := hid (by rw [HN.out, List.length_append, HQ.out]; rfl)
    have B9 := hid ((HBN.out.trans ((qt_of _ _).below _)).trans b9)
    clear o9 b9
    go_wp2_with fail
    go_roundw
    case rel => exact ⟨i + 1, q + 1, by omega, by go_num, by omega, HQ9, O9, B9⟩
    case measure => simp [intOf]; omega
  ·
   have j0 : ¬ (i : Int) < (m : Int) := by omega
   obtain rfl : i = m := by omega
   have HF : Hid (unl (l.take i) bs = unl l bs) := hid (by rw [List.take_of_length_le (by rw [HL.out]; exact Nat.le_refl _)])
   go_wp2
   go_ret
   exact ⟨_, rfl, by have h1 := Sl.of_own HO.out; have h2 := HQ.out; rw [HF.out] at h1 h2; rw [h2]; exact h1, HB.out⟩
theorem Tbls : SlT 135 4 (.bool false) 1 1 := SlT.mk Tryz.underlying135 (by kernel_rfl) rfl (by decide) (by decide)
theorem run_make_bls (n : Nat) (h : n ≤ 1000000) (w : World) :
  (Instr.makeSlice 135 (.int .i64 (n : Int)) (.int .i64 (n : Int))).run Tryz.prog w = .ok (.slice (some ⟨w.heap.size, 0, none⟩) n n) (w.alloc (.cells (bls (List.replicate n false)).toArray 4)) := by
 obtain ⟨hu, ⟨i, hi, hz, hsz, hby⟩, hzs, h0, h0b⟩ := Tbls
 have hr := run_make (P := Tryz.prog) w 135 4 i (.bool false) hu hi hz .i64 .i64 n n (by omega) (by omega) (by rw [hby]; omega) (by omega)
 rw [hr, hsz]
 have e : madeCells (Value.bool false).cells ((n : Int).toNat * 1) = (bls (List.replicate n false)).toArray := by
  have := toList_madeCells_one (.bool false) n
  simp only [Int.toNat_natCast, Nat.mul_one, bls, List.map_replicate]
  rw [← this]
  rfl
 rw [e]
 simp
def mks (n : Nat) (p : List Int) : List Bool := (List.range n).map fun j : Nat => p.contains (j : Int)
theorem len_mks (n : Nat) (p : List Int) : (mks n p).length = n := by simp [mks]
theorem mks_nil (n : Nat) : mks n [] = List.replicate n false := by
 apply List.ext_getElem
 · simp [mks]
 · intro i h1 h2; simp [mks]
theorem mks_next {n : Nat} {p : List Int} {i : Nat} (hi : i < p.length) (x : Nat) (hx : p[i] = (x : Int)) : (bls (mks n (p.take i))).set x (.bool true) = bls (mks n (p.take (i + 1))) := by
 have : (bls (mks n (p.take i))).set x (.bool true) = bls ((mks n (p.take i)).set x true) := by simp [bls, List.map_set]
 rw [this]
 congr 1
 apply List.ext_getElem
 · simp [mks]
 ·
  intro j h1 h2
  have hj : j < n := by simpa [mks] using h2
  rw [List.getElem_set]
  simp only [List.take_succ_eq_append_getElem hi, mks, List.getElem_map, List.getElem_range, List.contains_eq_mem, List.mem_append, List.mem_singleton, hx]
  by_cases e : x = j
  · subst e; simp
  ·
   rw [if_neg e]
   have : ¬ ((j : Int) = (x : Int)) := by omega
   simp [this]
theorem unl_cut {n : Nat} {p : List Int} {l : List (Int × Int × Int)} (hin : ∀ e ∈ l, (0 ≤ e.1 ∧ e.1 < (n : Int)) ∧ (0 ≤ e.2.1 ∧ e.2.1 < (n : Int))) : unl l (mks n p) = Tp.cutL l p := by
 unfold unl Tp.cutL Tp.crB
 refine List.filter_congr fun e he => ?_
 have key : ∀ x : Int, 0 ≤ x → x < n → (mks n p).getD x.toNat false = p.contains x := by
  intro x h0 h1
  rw [List.getD_eq_getElem?_getD, List.getElem?_eq_getElem (by rw [len_mks]; omega)]
  simp only [mks, List.getElem_map, List.getElem_range, Option.getD_some]
  rw [show ((x.toNat : Nat) : Int) = x by omega]
 obtain ⟨⟨h1, h2⟩, h3, h4⟩ := hin e he
 rw [key _ h1 h2, key _ h3 h4]
theorem tabr_in {n : Nat} {l : List (Int × Int × Int)} (h : TabR n l) : ∀ e ∈ l, (0 ≤ e.1 ∧ e.1 < (n : Int)) ∧ (0 ≤ e.2.1 ∧ e.2.1 < (n : Int)) := by
 intro e he
 obtain ⟨j, hj, rfl⟩ := List.mem_iff_getElem.1 he
 have := (h.2 j hj hj).1
 unfold EdOk at this; omega
def CutPost (w : World) (l : List (Int × Int × Int)) (e : Ending) (w' : World) : Prop := ∃ v, e = .returned (.tuple #[v, .int .i64 0]) ∧ Sl w' w'.heap.size 3 v l.length (eds l) ∧ Below w.heap.size w w'
set_option maxRecDepth 100000 in
set_option maxHeartbeats 8000000 in
theorem cut_ok {n : Nat} {v0 v1 : Value} {m k : Nat} {l : List (Int × Int × Int)} {p : List Int} {w : World} (hs : Sl w w.heap.size 3 v0 m (eds l)) (ht : TabR n l) (h1 : Sl w w.heap.size 1 v1 k (ints p)) (hp : ∀ x ∈ p, 0 ≤ x ∧ x < (n : Int)) (hm : m ≤ 1000000) :
  Calls Tryz.prog 47 #[.int .i64 (n : Int), v0, v1] w (CutPost w (Tp.cutL l p)) := by
 have hl : p.length = k := by have := h1.len; rw [len_ints] at this; omega
 have hn : n ≤ 1000000 := by have := ht.1; omega
 have HT := hid ht
 have HS := hid hs
 have HS1 := hid h1
 have HP := hid hp
 have HM := hid hm
 obtain ⟨A, c, rfl, hnc, hcm, hll, hx⟩ := h1
 have hk : k ≤ 9223372036854775807 := by unfold maxLen at hcm; omega
 have HX := hid hx
 have HL := hid hl
 have hmk := run_make_bls n hn
 clear hx hll hl hcm hnc hp ht hs hm
 go_enter Tryz.func47, Tryz.ntmps47
 go_wp2_with fail
 refine (cfits_yes HS.out HT.out HS1.out HP.out).mono ?_; rintro e w2 ⟨rfl, b2⟩
 have HB2 := hid b2
 have HS2 := hid (HS.out.call b2)
 clear b2
 go_wp2_with fail
 obtain ⟨K, hK⟩ : ∃ K, K = w2.heap.size := ⟨_, rfl⟩
 rw [← hK]
 have HK := hid hK
 clear hK hmk
 go_loopw [20] (fun iv wr => ∃ i : Nat, i ≤ k ∧ iv = .int .i64 (i : Int) ∧ Hid (Blk wr K 4 (bls (mks n (p.take i)))) ∧ Hid (Below w2.heap.size w2 wr)) (fun iv _ => k - (intOf iv).toNat)
 case atStart => exact ⟨0, Nat.zero_le _, rfl, hid (by have := Blk.new w2 4 (bls (List.replicate n false)); rw [← HK.out] at this; rw [List.take_zero, mks_nil]; exact this), hid (bel_new _ _)⟩
 case round =>
  obtain ⟨i, hi, rfl, HD, HB⟩ := hrel
  by_cases hlt : i < k
  ·
   have j0 : (i : Int) < (k : Int) := by omega
   have hil : i < p.length := by rw [HL.out]; exact hlt
   obtain ⟨b6, o6, rfl, hb6, hc6⟩ := HX.out (by omega)
   have p0 := ints_cell hc6 hil
   have hb7 := Nat.lt_of_lt_of_le hb6 HB2.out.size
   have q0 := (HB.out.cell (p := ⟨b6, o6 + i, none⟩) hb7).trans ((HB2.out.cell (p := ⟨b6, o6 + i, none⟩) hb6).trans p0)
   have hg : p.getD i 0 = p[i] := by rw [List.getD_eq_getElem?_getD, List.getElem?_eq_getElem hil]; rfl
   have hr := HP.out p[i] (List.getElem_mem hil)
   rw [hg] at q0
   have HNX := hid (fun x hx => mks_next (n := n) hil x hx)
   obtain ⟨x, hx⟩ : ∃ x, x = p[i] := ⟨_, rfl⟩
   rw [← hx] at q0 hr HNX
   obtain ⟨r1, r2⟩ := hr
   obtain ⟨xn, rfl⟩ := Int.eq_ofNat_of_zero_le r1
   have HDN : Hid (Blk (wr.setCell ⟨K, xn, none⟩ (.bool true)) K 4 (bls (mks n (p.take (i + 1))))) := hid (by
    have := HD.out.put xn (.bool true)
    rw [HNX.out xn rfl] at this; exact this)
   have HBN : Hid (Below w2.heap.size w2 (wr.setCell ⟨K, xn, none⟩ (.bool true))) := hid (HB.out.setCell (by rw [HK.out]; exact Nat.le_refl _) _)
   have hfz := HD.out.frozen xn
   have hcell : wr.cell? ⟨K, xn, none⟩ = some (.bool ((mks n (p.take i)).getD xn false)) := by rw [HD.out.cell]; exact bls_at _ _ (by rw [len_mks]; omega)
   clear hc6 p0 hg hx HNX
   go_wp2_with fail
   go_roundw
   case rel => exact ⟨i + 1, by omega, by go_num, HDN, HBN⟩
   case measure => simp [intOf]; omega
  ·
   have j0 : ¬ (i : Int) < (k : Int) := by omega
   obtain rfl : i = k := by omega
   have HE : Hid (p.take i = p) := hid (List.take_of_length_le (by rw [HL.out]; exact Nat.le_refl _))
   have HS3 := hid (HS2.out.call HB.out)
   have HMK : Hid (Sl wr wr.heap.size 1 (.slice (some ⟨K, 0, none⟩) n n) n (bls (mks n p))) := hid (by
    have := HD.out.sl (B := wr.heap.size) (sz := 1) (n := n) (c := n) HD.out.lt (Nat.le_refl _) (by unfold maxLen; omega) (by rw [len_bls, len_mks]; omega)
    rw [HE.out] at this; exact this)
   have HFF := hid (unl_cut (p := p) (tabr_in HT.out))
   go_wp2_with fail
   refine (unlike_any HS3.out HMK.out (tabr_in HT.out) HM.out).mono ?_; rintro e w4 ⟨v4, rfl, s4, b4⟩
   have HS4 := hid s4
   have HB4 := hid (Bl.call (HB2.out.trans (HB.out.mono HB2.out.size)) b4)
   clear s4 b4
   go_wp2
   go_ret2
   exact ⟨v4, rfl, by rw [← HFF.out]; exact HS4.out, HB4.out⟩
def nmsL (l : List (Int × Int × Int)) : List Nat := (Pt.uv l).map Tp.nmP
theorem nmsL_next {l : List (Int × Int × Int)} {i : Nat} (h : i < l.length) : nmsL (l.take (i + 1)) = nmsL (l.take i) ++ [Tp.nmP (l[i].1, l[i].2.1)] := by
 unfold nmsL Pt.uv
 rw [List.take_succ_eq_append_getElem h, List.map_append, List.map_append]; rfl
theorem len_nmsL (l : List (Int × Int × Int)) : (nmsL l).length = l.length := by simp [nmsL, Pt.uv]
def NmsPost (l : List (Int × Int × Int)) (w : World) (e : Ending) (w' : World) : Prop := ∃ v, e = .returned v ∧ Sl w' w'.heap.size 1 v l.length (us (nmsL l)) ∧ Below w.heap.size w w'
set_option maxRecDepth 100000 in
set_option maxHeartbeats 8000000 in
theorem cnames_any {v0 : Value} {m : Nat} {l : List (Int × Int × Int)} {w : World} (hs : Sl w w.heap.size 3 v0 m (eds l)) (hin : ∀ e ∈ l, 0 ≤ e.1 ∧ e.1 < e.2.1 ∧ e.2.1 ≤ 2000) (hm : m ≤ 1000000) :
  Calls Tryz.prog 52 #[v0] w (NmsPost l w) := by
 have hl : l.length = m := by have := hs.len; rw [len_eds] at this; omega
 obtain ⟨A, c, rfl, hnc, hcm, hll, hx⟩ := hs
 have HX := hid hx
 have HL := hid hl
 have HIN := hid hin
 clear hx hll hl hcm hnc hin
 go_enter Tryz.func52, Tryz.ntmps52
 go_wp2_with fail
 go_loopw [3, 10] (fun ov iv wr => ∃ i : Nat, i ≤ m ∧ iv = .int .i64 (i : Int) ∧ Hid (wr.ownsRow w.heap.size 40 1 ov i (us (nmsL (l.take i)))) ∧ Hid (Below w.heap.size w wr)) (fun _ iv _ => m - (intOf iv).toNat)
 case atStart => exact ⟨0, Nat.zero_le _, rfl, hid (World.ownsRow_nil _ _ _ _), hid (Below.refl _ _)⟩
 case round =>
  obtain ⟨i, hi, rfl, HO, HB⟩ := hrel
  by_cases hlt : i < m
  ·
   have j0 : (i : Int) < (m : Int) := by omega
   have hil : i < l.length := by rw [HL.out]; exact hlt
   obtain ⟨b6, o6, rfl, hb6, hc6⟩ := HX.out (by omega)
   obtain ⟨p0, p1, p2⟩ := eds_cell hc6 hil
   have q0 := (HB.out.cell (p := ⟨b6, o6 + i * 3, none⟩) hb6).trans p0
   have q1 := (HB.out.cell (p := ⟨b6, o6 + i * 3 + 1, none⟩) hb6).trans p1
   have q2 := (HB.out.cell (p := ⟨b6, o6 + i * 3 + 2, none⟩) hb6).trans p2
   have HNX := hid (nmsL_next hil)
   obtain ⟨e1, e2, e3⟩ := HIN.out l[i] (List.getElem_mem hil)
   obtain ⟨e, he⟩ : ∃ e, e = l[i] := ⟨_, rfl⟩
   rw [← he] at q0 q1 q2 HNX e1 e2 e3
   obtain ⟨x, y, t⟩ := e
   dsimp only at q0 q1 q2 e1 e2 e3 HNX
   clear he p0 p1 p2 hc6
   have HZ0 : Hid (x * 16777216 + y = ((Tp.nmP (x, y) : Nat) : Int)) := hid (by unfold Tp.nmP; simp; omega)
   have HBN := hid (HB.out.alloc HB.out.size (.cells #[.int .i64 x, .int .i64 y, .int .i64 t] 35))
   have HO2 := hid (HO.out.alloc (.cells #[.int .i64 x, .int .i64 y, .int .i64 t] 35))
   have HH : Hid ((wr.alloc (.cells #[.int .i64 x, .int .i64 y, .int .i64 t] 35)).heap.size = wr.heap.size + 1) := hid (by simp)
   have HZ := hid HBN.out.size
   have hby : (i + 1) * 8 ≤ 140737488355328 := by omega
   go_wp2_with fail
   refine (nof_ok e1 e2 e3 HZ0.out _).mono ?_; rintro e w' ⟨rfl, rfl⟩
   generalize Tp.nmP (x, y) = nz at HNX
   go_wp2_with (at_builtin; (refine wl_app1H rfl _ _ Tus rfl (news := [.int .u64 (nz : Int)]) rfl HO2.out rfl HH.out rfl (us_one [nz]) hby HZ.out ?_))
   intro v9 w9 o9 b9
   have O9 : Hid (w9.ownsRow w.heap.size 40 1 v9 (i + 1) (us (nmsL (l.take (i + 1))))) := hid (by rw [HNX.out, ← us_app]; exact o9)
   have B9 := hid (HBN.out.trans b9)
   clear o9 b9
   go_wp2_with fail
   go_roundw
   case rel => exact ⟨i + 1, by omega, by go_num, O9, B9⟩
   case measure => simp [intOf]; omega
  ·
   have j0 : ¬ (i : Int) < (m : Int) := by omega
   obtain rfl : i = m := by omega
   have HF : Hid (l.take i = l) := hid (List.take_of_length_le (by rw [HL.out]; exact Nat.le_refl _))
   go_wp2
   go_ret
   exact ⟨_, rfl, by have h1 := Sl.of_own HO.out; rw [HF.out] at h1; rw [HL.out]; exact h1, HB.out⟩
def hcz (l : List (Int × Int)) : List Value := l.flatMap fun h => [.int .u64 h.1, .int .u64 h.2]
theorem len_hcz (l : List (Int × Int)) : (hcz l).length = l.length * 2 := by
 induction l with
 | nil => rfl
 | cons e l ih => simp [hcz] at ih ⊢; omega
theorem hcz_at (l : List (Int × Int)) (k : Nat) (h : k < l.length) : (hcz l)[k * 2]? = some (.int .u64 l[k].1) ∧ (hcz l)[k * 2 + 1]? = some (.int .u64 l[k].2) := by
 induction l generalizing k with
 | nil => simp at h
 | cons e l ih =>
  cases k with
  | zero => simp [hcz]
  | succ k =>
   have := ih k (by simpa using h)
   simp only [hcz, List.flatMap_cons, List.getElem_cons_succ] at this ⊢
   rw [show (k + 1) * 2 = (k * 2) + 2 by omega]
   exact this
theorem hcz_cell {w : World} {b o : Nat} {l : List (Int × Int)} (h : ∀ j u, (hcz l)[j]? = some u → w.cell? ⟨b, o + j, none⟩ = some u) {k : Nat} (hk : k < l.length) :
  w.cell? ⟨b, o + k * 2, none⟩ = some (.int .u64 l[k].1) ∧ w.cell? ⟨b, o + k * 2 + 1, none⟩ = some (.int .u64 l[k].2) := by
 have e := hcz_at l k hk
 exact ⟨h _ _ e.1, by rw [Nat.add_assoc]; exact h _ _ e.2⟩
def GSz (N L R : Int) : Prop := 1 ≤ N ∧ N ≤ 1024 ∧ 1 ≤ L ∧ L ≤ 16 ∧ 1 ≤ R ∧ R ≤ 8
def HsOk (hs : List (Int × Int)) (i : Nat) : Prop := ∀ j, (h : j < hs.length) → j < i → hs[j].1 < 2305843009213693951 ∧ hs[j].2 < 2305843009213693951
def TrOk (L : Int) (es : List (Int × Int × Int)) (i : Nat) : Prop := ∀ j, (h : j < es.length) → j < i → es[j].2.2 ≤ L
def GR (N L R : Int) (hs : List (Int × Int)) (es : List (Int × Int × Int)) : Prop :=
 GSz N L R ∧ (hs.length : Int) = L * R ∧ HsOk hs hs.length ∧ TabR N es ∧ TrOk L es es.length ∧ Pt.Fst N.toNat (Pt.uv (frs L es))
theorem not_true {p : Prop} {b : Bool} (h : p ↔ b = true) (hn : ¬ p) : b = false := by
 cases b with
 | false => rfl
 | true => exact absurd (h.2 rfl) hn
theorem hs_next {hs : List (Int × Int)} {i : Nat} (hp : HsOk hs i) (h1 : ∀ h : i < hs.length, hs[i].1 < 2305843009213693951 ∧ hs[i].2 < 2305843009213693951) : HsOk hs (i + 1) := by
 intro j h hj
 rcases Nat.lt_or_ge j i with h3 | h3
 · exact hp j h h3
 ·
  have : j = i := by omega
  subst this; exact h1 h
theorem tr_next {L : Int} {es : List (Int × Int × Int)} {i : Nat} (hp : TrOk L es i) (h1 : ∀ h : i < es.length, es[i].2.2 ≤ L) : TrOk L es (i + 1) := by
 intro j h hj
 rcases Nat.lt_or_ge j i with h3 | h3
 · exact hp j h h3
 ·
  have : j = i := by omega
  subst this; exact h1 h
abbrev grV (N L R : Int) (vh ve : Value) : Value := .agg #[.int .i64 N, .int .i64 L, .int .i64 R, vh, ve]
set_option maxRecDepth 100000 in
set_option maxHeartbeats 16000000 in
theorem gr_any {N L R : Int} {vh ve : Value} {nh ne : Nat} {hs : List (Int × Int)} {es : List (Int × Int × Int)} {w : World} (h1 : Sl w w.heap.size 2 vh nh (hcz hs)) (h2 : Sl w w.heap.size 3 ve ne (eds es)) (hn : ne ≤ 1000000)
  (b : Bool) (hb : GR N L R hs es ↔ b = true) :
  Calls Tryz.prog 19 #[grV N L R vh ve] w fun e w' => e = .returned (.bool b) ∧ Below w.heap.size w w' := by
 have hl1 : hs.length = nh := by have := h1.len; rw [len_hcz] at this; omega
 have hl2 : es.length = ne := by have := h2.len; rw [len_eds] at this; omega
 have S1 := hid h1
 have S2 := hid h2
 have HB := hid hb
 have HL1 := hid hl1
 have HL2 := hid hl2
 obtain ⟨A1, c1, rfl, hnc1, hcm1, -, hx1⟩ := h1
 obtain ⟨A2, c2, rfl, hnc2, hcm2, -, hx2⟩ := h2
 have hm1 : nh ≤ 9223372036854775807 := by unfold maxLen at hcm1; omega
 have hm2 : ne ≤ 9223372036854775807 := by omega
 have HX1 := hid hx1
 have HX2 := hid hx2
 clear hx1 hx2 hl1 hl2 hb hcm1 hcm2 hnc1 hnc2
 unfold grV
 have HBB : Hid (Below w.heap.size w ((w.alloc (.cells #[.int .i64 N, .int .i64 L, .int .i64 R, .slice A1 nh c1, .slice A2 ne c2] 28)).alloc (.cells #[.int .i64 N, .int .i64 L, .int .i64 R] 23))) := hid (Bl.new (bel_new _ _) _)
 by_cases g0 : 1 ≤ N
 case neg =>
  have HF : Hid (b = false) := hid (not_true HB.out (fun h => by have h2 := h.1; unfold GSz at h2; omega))
  go_enter Tryz.func19, Tryz.ntmps19
  go_wp2
  go_ret
  exact ⟨by rw [HF.out]; rfl, HBB.out⟩
 case pos =>
 by_cases g1 : N ≤ 1024
 case neg =>
  have HF : Hid (b = false) := hid (not_true HB.out (fun h => by have h2 := h.1; unfold GSz at h2; omega))
  go_enter Tryz.func19, Tryz.ntmps19
  go_wp2
  go_ret
  exact ⟨by rw [HF.out]; rfl, HBB.out⟩
 case pos =>
 by_cases g2 : 1 ≤ L
 case neg =>
  have HF : Hid (b = false) := hid (not_true HB.out (fun h => by have h2 := h.1; unfold GSz at h2; omega))
  go_enter Tryz.func19, Tryz.ntmps19
  go_wp2
  go_ret
  exact ⟨by rw [HF.out]; rfl, HBB.out⟩
 case pos =>
 by_cases g3 : L ≤ 16
 case neg =>
  have HF : Hid (b = false) := hid (not_true HB.out (fun h => by have h2 := h.1; unfold GSz at h2; omega))
  go_enter Tryz.func19, Tryz.ntmps19
  go_wp2
  go_ret
  exact ⟨by rw [HF.out]; rfl, HBB.out⟩
 case pos =>
 by_cases g4 : 1 ≤ R
 case neg =>
  have HF : Hid (b = false) := hid (not_true HB.out (fun h => by have h2 := h.1; unfold GSz at h2; omega))
  go_enter Tryz.func19, Tryz.ntmps19
  go_wp2
  go_ret
  exact ⟨by rw [HF.out]; rfl, HBB.out⟩
 case pos =>
 by_cases g5 : R ≤ 8
 case neg =>
  have HF : Hid (b = false) := hid (not_true HB.out (fun h => by have h2 := h.1; unfold GSz at h2; omega))
  go_enter Tryz.func19, Tryz.ntmps19
  go_wp2
  go_ret
  exact ⟨by rw [HF.out]; rfl, HBB.out⟩
 case pos =>
 have HSZ : Hid (GSz N L R) := hid ⟨g0, g1, g2, g3, g4, g5⟩
 obtain ⟨lr, hlr⟩ : ∃ lr, L * R = lr := ⟨_, rfl⟩
 have hlr1 : lr ≤ 128 := by rw [← hlr]; exact Int.le_trans (Int.mul_le_mul g3 g5 (by omega) (by omega)) (by decide)
 have hlr0 : 0 ≤ lr := by rw [← hlr]; exact Int.mul_nonneg (by omega) (by omega)
 have HLR := hid hlr
 by_cases k1 : (nh : Int) = lr
 case neg =>
  have k2 : ((nh : Int) != lr) = true := by simp [k1]
  have HF : Hid (b = false) := hid (not_true HB.out (fun h => k1 (by rw [← HLR.out, ← h.2.1, HL1.out])))
  clear k1
  go_enter Tryz.func19, Tryz.ntmps19
  go_wp2
  go_ret
  exact ⟨by rw [HF.out]; rfl, HBB.out⟩
 case pos =>
 have k2 : ((nh : Int) != lr) = false := by simp [k1]
 have HLL : Hid ((hs.length : Int) = L * R) := hid (by rw [HL1.out, HLR.out, k1])
 clear k1
 go_enter Tryz.func19, Tryz.ntmps19
 go_wp2_with fail
 obtain ⟨KG, hKG⟩ : ∃ K, K = w.heap.size := ⟨_, rfl⟩
 obtain ⟨w2, hw2⟩ : ∃ W, W = ((w.alloc (.cells #[.int .i64 N, .int .i64 L, .int .i64 R, .slice A1 nh c1, .slice A2 ne c2] 28)).alloc (.cells #[.int .i64 N, .int .i64 L, .int .i64 R] 23)) := ⟨_, rfl⟩
 have HB2 : Hid (Below w.heap.size w w2) := hid (by rw [hw2]; exact HBB.out)
 have DG : Hid (Blk w2 KG 28 [.int .i64 N, .int .i64 L, .int .i64 R, .slice A1 nh c1, .slice A2 ne c2]) := hid (by rw [hw2, hKG]; exact (Blk.new _ _ _).alloc _)
 have DC : Hid (Blk w2 (KG + 1) 23 [.int .i64 N, .int .i64 L, .int .i64 R]) := hid (by rw [hw2, hKG]; have := Blk.new (w.alloc (.cells #[.int .i64 N, .int .i64 L, .int .i64 R, .slice A1 nh c1, .slice A2 ne c2] 28)) 23 [.int .i64 N, .int .i64 L, .int .i64 R]; simpa using this)
 rw [← hKG, ← hw2]
 clear hKG hw2 HBB k2 hlr
 go_loopw [50] (fun iv wr => ∃ i : Nat, i ≤ nh ∧ iv = .int .i64 (i : Int) ∧ Hid (HsOk hs i) ∧ Hid (Below w2.heap.size w2 wr)) (fun iv _ => nh - (intOf iv).toNat)
 case atStart => exact ⟨0, Nat.zero_le _, rfl, hid (fun j _ h => absurd h (Nat.not_lt_zero _)), hid (Below.refl _ _)⟩
 case round =>
  obtain ⟨i, hi, rfl, HP, HBr⟩ := hrel
  obtain ⟨w3, rfl⟩ : ∃ x, x = wr := ⟨wr, rfl⟩
  by_cases hlt : i < nh
  case pos =>
   have j0 : (i : Int) < (nh : Int) := by omega
   have hil : i < hs.length := by rw [HL1.out]; exact hlt
   obtain ⟨b6, o6, rfl, hb6, hc6⟩ := HX1.out (by omega)
   obtain ⟨p0, p1⟩ := hcz_cell hc6 hil
   have hb7 := Nat.lt_of_lt_of_le hb6 HB2.out.size
   have q0 := (HBr.out.cell (p := ⟨b6, o6 + i * 2, none⟩) hb7).trans ((HB2.out.cell (p := ⟨b6, o6 + i * 2, none⟩) hb6).trans p0)
   have q1 := (HBr.out.cell (p := ⟨b6, o6 + i * 2 + 1, none⟩) hb7).trans ((HB2.out.cell (p := ⟨b6, o6 + i * 2 + 1, none⟩) hb6).trans p1)
   have HNX := hid (fun h : hs[i].1 < 2305843009213693951 ∧ hs[i].2 < 2305843009213693951 => hs_next HP.out (fun _ => h))
   have HNO := hid (fun h : ¬ (hs[i].1 < 2305843009213693951 ∧ hs[i].2 < 2305843009213693951) => not_true HB.out (fun g => h (g.2.2.1 i hil hil)))
   obtain ⟨e, he⟩ : ∃ e, e = hs[i] := ⟨_, rfl⟩
   rw [← he] at q0 q1 HNX HNO
   obtain ⟨x, y⟩ := e
   dsimp only at q0 q1 HNX HNO
   clear he p0 p1 hc6 hb7 hil
   have HBN := hid (Bl.new HBr.out (.cells #[.int .u64 x, .int .u64 y] 42))
   by_cases k1 : x < 2305843009213693951
   case neg =>
    have HF := hid (HNO.out (fun h => k1 h.1))
    have k3 : (2305843009213693951 : Int) ≤ x := by omega
    clear k1 HNO HNX
    go_wp2
    go_ret
    exact ⟨by rw [HF.out]; rfl, HB2.out.trans (HBN.out.mono HB2.out.size)⟩
   case pos =>
   by_cases k2 : y < 2305843009213693951
   case neg =>
    have HF := hid (HNO.out (fun h => k2 h.2))
    have k3 : (2305843009213693951 : Int) ≤ y := by omega
    clear k2 HNO HNX
    go_wp2
    go_ret
    exact ⟨by rw [HF.out]; rfl, HB2.out.trans (HBN.out.mono HB2.out.size)⟩
   case pos =>
    have HN := hid (HNX.out ⟨k1, k2⟩)
    have k3 : ¬ (2305843009213693951 : Int) ≤ x := by omega
    have k4 : ¬ (2305843009213693951 : Int) ≤ y := by omega
    clear HNO HNX k1 k2
    go_wp2_with fail
    go_roundw
    case rel => exact ⟨i + 1, by omega, by go_num, HN, HBN⟩
    case measure => simp [intOf]; omega
  case neg =>
   obtain rfl : i = nh := by omega
   have j0 : ¬ (i : Int) < (i : Int) := by omega
   have HP1 : Hid (HsOk hs hs.length) := hid (by rw [HL1.out]; exact HP.out)
   have S2r := hid ((S2.out.call HB2.out).call HBr.out)
   have DG3 := hid (DG.out.below HBr.out DG.out.lt)
   have DC3 := hid (DC.out.below HBr.out DC.out.lt)
   have n0 := DC3.out.cell 0
   have n4 := DG3.out.cell 4
   by_cases ht : TabR N es
   case neg =>
    have HF : Hid (b = false) := hid (not_true HB.out (fun h => ht h.2.2.2.1))
    have HT : Hid (TabR N es ↔ false = true) := hid (by simp only [ht]; simp)
    clear ht
    go_wp2_with fail
    refine (tright_is S2r.out false HT.out).mono ?_; rintro e w4 ⟨rfl, b4⟩
    have HB4 := hid (Bl.call (HB2.out.trans (HBr.out.mono HB2.out.size)) b4)
    clear b4 n0 n4
    go_wp2
    go_ret
    exact ⟨by rw [HF.out]; rfl, HB4.out⟩
   case pos =>
    have HT := hid ht
    clear ht
    go_wp2_with fail
    refine (tright_is S2r.out true ⟨fun _ => rfl, fun _ => HT.out⟩).mono ?_; rintro e w4 ⟨rfl, b4⟩
    have HB4 := hid (Bl.call (HB2.out.trans (HBr.out.mono HB2.out.size)) b4)
    have DG4 := hid (DG3.out.below b4 DG3.out.lt)
    have DC4 := hid (DC3.out.below b4 DC3.out.lt)
    have S24 := hid (S2r.out.call b4)
    clear b4 n0 n4
    have n4 := DG4.out.cell 4
    go_wp2_with fail
    go_loopw [72] (fun iv wr => ∃ i : Nat, i ≤ ne ∧ iv = .int .i64 (i : Int) ∧ Hid (TrOk L es i) ∧ Hid (Below w4.heap.size w4 wr)) (fun iv _ => ne - (intOf iv).toNat)
    case atStart => exact ⟨0, Nat.zero_le _, rfl, hid (fun j _ h => absurd h (Nat.not_lt_zero _)), hid (Below.refl _ _)⟩
    case round =>
     clear n4
     obtain ⟨q, hq, rfl, HQ, HBq⟩ := hrel
     have DG5 := hid (DG4.out.below HBq.out DG4.out.lt)
     have DC5 := hid (DC4.out.below HBq.out DC4.out.lt)
     have S25 := hid (S24.out.call HBq.out)
     have HB5 := hid (HB4.out.trans (HBq.out.mono HB4.out.size))
     by_cases hqt : q < ne
     case pos =>
      have j0 : (q : Int) < (ne : Int) := by omega
      have hil : q < es.length := by rw [HL2.out]; exact hqt
      obtain ⟨b6, o6, rfl, hb6, hc6⟩ := HX2.out (by omega)
      obtain ⟨p0, p1, p2⟩ := eds_cell hc6 hil
      have q0 := (HB5.out.cell (p := ⟨b6, o6 + q * 3, none⟩) hb6).trans p0
      have q1 := (HB5.out.cell (p := ⟨b6, o6 + q * 3 + 1, none⟩) hb6).trans p1
      have q2 := (HB5.out.cell (p := ⟨b6, o6 + q * 3 + 2, none⟩) hb6).trans p2
      have HNX := hid (fun h : es[q].2.2 ≤ L => tr_next HQ.out (fun _ => h))
      have HNO := hid (fun h : ¬ es[q].2.2 ≤ L => not_true HB.out (fun g => h (g.2.2.2.2.1 q hil hil)))
      obtain ⟨e, he⟩ : ∃ e, e = es[q] := ⟨_, rfl⟩
      rw [← he] at q0 q1 q2 HNX HNO
      obtain ⟨x, y, t⟩ := e
      dsimp only at q0 q1 q2 HNX HNO
      clear he p0 p1 p2 hc6 hil
      have HBN := hid (Bl.new HB5.out (.cells #[.int .i64 x, .int .i64 y, .int .i64 t] 35))
      have HBM := hid (HBq.out.alloc HBq.out.size (.cells #[.int .i64 x, .int .i64 y, .int .i64 t] 35))
      have DC6 := hid (DC5.out.alloc (.cells #[.int .i64 x, .int .i64 y, .int .i64 t] 35))
      have m1 := DC6.out.cell 1
      by_cases k1 : t ≤ L
      case neg =>
       have HF := hid (HNO.out k1)
       have k3 : L < t := by omega
       clear k1 HNO HNX
       go_wp2
       go_ret
       exact ⟨by rw [HF.out]; rfl, HBN.out⟩
      case pos =>
       have HN := hid (HNX.out k1)
       have k3 : ¬ L < t := by omega
       clear HNO HNX k1
       go_wp2_with fail
       go_roundw
       case rel => exact ⟨q + 1, by omega, by go_num, HN, HBM⟩
       case measure => simp [intOf]; omega
     case neg =>
      obtain rfl : q = ne := by omega
      have j0 : ¬ (q : Int) < (q : Int) := by omega
      have HQ1 : Hid (TrOk L es es.length) := hid (by rw [HL2.out]; exact HQ.out)
      obtain ⟨n, hnn⟩ := Int.eq_ofNat_of_zero_le (show 0 ≤ N by omega)
      subst hnn
      have hn2 : n ≤ 1024 := by omega
      have HN2 := hid hn2
      have m0 := DC5.out.cell 0
      have m1 := DC5.out.cell 1
      have m4 := DG5.out.cell 4
      by_cases hf : Pt.Fst n (Pt.uv (frs L es))
      case pos =>
       have HFF := hid hf
       have HF : Hid (b = true) := hid (HB.out.1 ⟨HSZ.out, HLL.out, HP1.out, HT.out, HQ1.out, by simpa using hf⟩)
       clear hf
       go_wp2_with fail
       go_region_held3 (fun w' => w'.cell? ⟨KG + 1, 0, none⟩ = some (.int .i64 (n : Int)) ∧ w'.cell? ⟨KG + 1, 1, none⟩ = some (.int .i64 L) ∧ w'.cell? ⟨KG, 4, none⟩ = some (.slice A2 q c2))
        (first | go_keep | (go_split_ands; and_intros <;> (first | (refine cell_later (by assumption) ?_; first | assumption | (rw [Qt.cell (qt_of _ _)]; assumption) | (rw [Qt.cell (qt_drew _)]; assumption)) | (refine cell_later (bel_new _ _) ?_; assumption))) | (refine cell_later (by assumption) ?_; first | assumption | (rw [Qt.cell (qt_of _ _)]; assumption) | (rw [Qt.cell (qt_drew _)]; assumption)) | (refine cell_later (bel_new _ _) ?_; assumption))
        (first | (go_at_call 45; (with_reducible refine (tforest_any (n := (n : Int)) (k := L) (by repeat (first | exact S25.out | refine Sl.new ?_ _ | refine Sl.cqt ?_ (qt_drew _) | refine Sl.cqt ?_ (qt_of _ _) | refine Sl.call ?_ (by assumption) | refine Sl.cqt ?_ (by assumption))) HT.out hn).mono ?_); rintro e w6 ⟨v6, rfl, s6, b6⟩) | (go_at_call 44; (with_reducible refine (gright_yes HN2.out s6 HFF.out).mono ?_); rintro e w7 ⟨rfl, b7⟩))
       all_goals
        go_wp2
        go_ret
        exact ⟨by rw [HF.out]; rfl, (by repeat (first | exact HB5.out | refine Bl.new ?_ _ | refine Bl.call ?_ (by assumption) | refine Bl.qt ?_ (by assumption) | refine Bl.qt ?_ (qt_drew _) | refine Bl.qt ?_ (qt_of _ _)))⟩
      case neg =>
       have HFF := hid hf
       have HF : Hid (b = false) := hid (not_true HB.out (fun h => hf (by have := h.2.2.2.2.2; simpa using this)))
       clear hf
       go_wp2_with fail
       go_region_held3 (fun w' => w'.cell? ⟨KG + 1, 0, none⟩ = some (.int .i64 (n : Int)) ∧ w'.cell? ⟨KG + 1, 1, none⟩ = some (.int .i64 L) ∧ w'.cell? ⟨KG, 4, none⟩ = some (.slice A2 q c2))
        (first | go_keep | (go_split_ands; and_intros <;> (first | (refine cell_later (by assumption) ?_; first | assumption | (rw [Qt.cell (qt_of _ _)]; assumption) | (rw [Qt.cell (qt_drew _)]; assumption)) | (refine cell_later (bel_new _ _) ?_; assumption))) | (refine cell_later (by assumption) ?_; first | assumption | (rw [Qt.cell (qt_of _ _)]; assumption) | (rw [Qt.cell (qt_drew _)]; assumption)) | (refine cell_later (bel_new _ _) ?_; assumption))
        (first | (go_at_call 45; (with_reducible refine (tforest_any (n := (n : Int)) (k := L) (by repeat (first | exact S25.out | refine Sl.new ?_ _ | refine Sl.cqt ?_ (qt_drew _) | refine Sl.cqt ?_ (qt_of _ _) | refine Sl.call ?_ (by assumption) | refine Sl.cqt ?_ (by assumption))) HT.out hn).mono ?_); rintro e w6 ⟨v6, rfl, s6, b6⟩) | (go_at_call 44; (with_reducible refine (gright_no HN2.out s6 HFF.out).mono ?_); rintro e w7 ⟨rfl, b7⟩))
       all_goals
        go_wp2
        go_ret
        exact ⟨by rw [HF.out]; rfl, (by repeat (first | exact HB5.out | refine Bl.new ?_ _ | refine Bl.call ?_ (by assumption) | refine Bl.qt ?_ (by assumption) | refine Bl.qt ?_ (qt_drew _) | refine Bl.qt ?_ (qt_of _ _)))⟩
theorem Blk.on {w w' : World} {K : Nat} {T : TypeId} {cs : List Value} (h : Blk w K T cs) (hb : Below w.heap.size w w') : Blk w' K T cs := h.below hb h.lt
theorem own_far {w : World} {base : Nat} {e : TypeId} {sz n g c : Nat} {xs : List Value} (h : w.ownsRow base e sz (.slice (some ⟨g, 0, none⟩) n c) n xs) {p : Addr} (hp : g ≠ p.block) (u : Value) : (w.setCell p u).ownsRow base e sz (.slice (some ⟨g, 0, none⟩) n c) n xs := by
 refine ⟨h.1, ?_⟩
 rcases h.2 with hn | ⟨k, cap, cur, hv, hbk, hh, rest⟩
 · exact .inl hn
 ·
  injection hv with h1 h2 h3
  injection h1 with h1
  injection h1 with h1 _ _
  subst h1 h3
  exact .inr ⟨g, c, cur, rfl, hbk, (Below.heap_setCell w p u g hp).trans hh, rest⟩
def SkPost (r v : Int) (n : Nat) (ws : List Nat) (w : World) (e : Ending) (w' : World) : Prop :=
 ∃ v', e = .returned (.tuple #[.agg #[.int .i64 r, .int .i64 v, v'], .int .i64 0]) ∧ Sl w' w'.heap.size 1 v' n (us ws) ∧ Below w.heap.size w w'
theorem ends_yes {n : Nat} (hn : n < 18446744073709551616) (h : Sk.isE n = true) (w : World) : Calls Tryz.prog 25 #[.int .u64 (n : Int)] w fun e w' => e = .returned (.tuple #[.int .i64 ((n : Int) / 16777216), .int .i64 ((n : Int) % 16777216), .bool true]) ∧ w = w' := by
 have h' : n / 16777216 < n % 16777216 := by unfold Sk.isE at h; simpa using h
 have t0 : ¬ ((n : Int) % 16777216 ≤ (n : Int) / 16777216) := by omega
 clear h h'
 go_enter Tryz.func25, Tryz.ntmps25
 go_wp2
 refine bodyPost_ret (v := .tuple #[.int .i64 ((n : Int) / 16777216), .int .i64 ((n : Int) % 16777216), .bool true]) ?_ rfl ⟨rfl, rfl⟩
 simp [results, Tryz.results25, go_sem]
theorem ends_no {n : Nat} (hn : n < 18446744073709551616) (h : Sk.isE n = false) (w : World) : Calls Tryz.prog 25 #[.int .u64 (n : Int)] w fun e w' => e = .returned (.tuple #[.int .i64 0, .int .i64 0, .bool false]) ∧ w = w' := by
 have h' : n % 16777216 ≤ n / 16777216 := by unfold Sk.isE at h; simpa using h
 have t0 : (n : Int) % 16777216 ≤ (n : Int) / 16777216 := by omega
 clear h h'
 go_enter Tryz.func25, Tryz.ntmps25
 go_wp2
 refine bodyPost_ret (v := .tuple #[.int .i64 0, .int .i64 0, .bool false]) ?_ rfl ⟨rfl, rfl⟩
 simp [results, Tryz.results25, go_sem]
def NmPost (ws : List Nat) (w : World) (e : Ending) (w' : World) : Prop := ∃ v', e = .returned v' ∧ Sl w' w'.heap.size 1 v' (Sk.nms ws).length (us (Sk.nms ws)) ∧ Below w.heap.size w w'
theorem snames_ok {r v : Int} {va : Value} {n : Nat} {xs : List Nat} {w : World} (h : SOk r v n) (ha : Sl w w.heap.size 1 va n (us xs)) (sa : Sk.Small xs) :
  Calls Tryz.prog 23 #[.agg #[.int .i64 r, .int .i64 v, va]] w (NmPost xs w) := by
 have H := hid h
 have hn : n ≤ 488 := by
  obtain ⟨⟨h1, h2, h3, h4⟩, h5⟩ := h
  have : r * v ≤ 8 * 61 := Int.mul_le_mul h2 h4 (by omega) (by omega)
  omega
 have hal : xs.length = n := by have := ha.len; rw [len_us] at this; omega
 have HL := hid hal
 have HS := hid sa
 obtain ⟨A, c, rfl, hnc, hcm, hl1, hx1⟩ := ha
 have HX := hid hx1
 clear h hal sa hx1 hl1 hcm
 obtain ⟨w0, hw0⟩ : ∃ z, z = w.alloc (.cells #[.int .i64 r, .int .i64 v, .slice A n c] 62) := ⟨_, rfl⟩
 obtain ⟨K2, hK2⟩ : ∃ K, K = w.heap.size := ⟨_, rfl⟩
 have s0 : w0.heap.size = K2 + 1 := by rw [hw0]; simp [hK2]
 have q0 : Below w.heap.size w w0 := by rw [hw0]; exact bel_new _ _
 have B2 : Hid (Blk w0 (K2) 62 [.int .i64 r, .int .i64 v, .slice A n c]) := hid (by rw [hK2]; exact (show Blk w0 w.heap.size 62 [.int .i64 r, .int .i64 v, .slice A n c] by rw [hw0]; exact Blk.new _ _ _))
 have HB0 : Hid (Below w.heap.size w w0) := hid q0
 have HW : Hid (w0 = (w.alloc (.cells #[.int .i64 r, .int .i64 v, .slice A n c] 62))) := hid (by rw [hw0])
 have HK : Hid (K2 = w.heap.size) := hid hK2
 clear hK2 hw0 s0 q0
 have e0 := B2.out.cell 0
 have e1 := B2.out.cell 1
 have e2 := B2.out.cell 2
 have hni : (n : Int) ≤ 488 := by omega
 go_enter Tryz.func23, Tryz.ntmps23
 go_upto_region 1 with (fail)
 rw [← HW.out, ← HK.out]
 go_wp2_with fail
 refine (sright_yes H.out _).mono ?_; rintro e w1 ⟨rfl, b1⟩
 have HB1 := hid (Bl.call HB0.out b1)
 have C2 := hid (B2.out.on b1)
 clear b1 e0 e1 e2
 have e2 := C2.out.cell 2
 go_wp2_with fail
 go_loopw [3, 15] (fun nv i wr => ∃ k : Nat, i = .int .i64 (k : Int) ∧ k ≤ n ∧ Hid (wr.ownsRow w1.heap.size 40 1 nv (Sk.nms (xs.take k)).length (us (Sk.nms (xs.take k)))) ∧ Hid (Below w1.heap.size w1 wr)) (fun _ i _ => n - (intOf i).toNat)
 case atStart => exact ⟨0, rfl, Nat.zero_le _, World.ownsRow_nil _ _ _ _, hid (Below.refl _ _)⟩
 case round =>
  obtain ⟨k, rfl, hk, HO, HB⟩ := hrel
  clear e2
  by_cases hlt : k < n
  ·
   have hki : (k : Int) < (n : Int) := by omega
   obtain ⟨b, o, rfl, hbb, hc⟩ := HX.out (by omega)
   have hkx : k < xs.length := by rw [HL.out]; exact hlt
   have q0 := us_cell hc hkx
   have c0 := ((HB1.out.trans (HB.out.mono HB1.out.size)).cell (p := ⟨b, o + k, none⟩) hbb).trans q0
   have hst := Sk.nms_step xs k hkx
   have hln := Sk.nms_len (xs.take k)
   have hln2 : (Sk.nms (xs.take k)).length ≤ 488 := by rw [List.length_take] at hln; omega
   have hsm := Sk.small_getD HS.out k
   have hgd : xs.getD k 0 = xs[k] := by simp [List.getD, hkx]
   rw [← hgd] at hst
   have HST := hid hst
   generalize xs.getD k 0 = x at *
   have HSZ := hid HB.out.size
   have HLN := hid hln2
   clear q0 hc hst hln hgd hln2
   cases hE : Sk.isE x
   ·
    have HE := hid hE
    clear hE
    go_wp2_with fail
    refine (ends_no hsm HE.out _).mono ?_; rintro e w' ⟨rfl, rfl⟩
    go_wp2
    go_roundw
    case rel => exact ⟨k + 1, by go_num, by omega, by rw [HST.out, HE.out]; simpa using HO, HB⟩
    case measure => simp [intOf]; omega
   ·
    have HE := hid hE
    clear hE
    go_wp2_with fail
    refine (ends_yes hsm HE.out _).mono ?_; rintro e w' ⟨rfl, rfl⟩
    go_wp2_with (at_builtin; refine wl_app1 rfl _ _ Tus rfl (news := [.int .u64 (x : Int)]) rfl HO.out rfl rfl (us_one [x]) (by have := HLN.out; omega) HSZ.out ?_)
    intro v5 w5 hO5 hB5
    have HO5 := hid hO5
    have HB5 := hid (HB.out.trans hB5)
    clear hO5 hB5
    go_wp2
    go_roundw
    case rel => exact ⟨k + 1, by go_num, by omega, by rw [HST.out, HE.out, ← us_app, List.length_append]; exact HO5, HB5⟩
    case measure => simp [intOf]; omega
  ·
   obtain rfl : k = n := by omega
   have hki : ¬ (k : Int) < (k : Int) := by omega
   go_wp2
   go_ret
   exact ⟨_, rfl, by rw [List.take_of_length_le (by rw [HL.out]; exact Nat.le_refl _)] at HO; exact Sl.of_own HO.out, HB1.out.trans (HB.out.mono HB1.out.size)⟩
set_option maxHeartbeats 4000000 in
theorem toggle_ok {R V N n : Nat} {l : List (Nat × Nat)} {xs : List Nat} {va v1 : Value} {w : World} (h : SOk (R : Int) (V : Int) N) (ha : Sl w w.heap.size 1 va N (us xs)) (hl : Sl w w.heap.size 2 v1 R (hcs l)) (hn : n < 18446744073709551616) (sa : Sk.Small xs) (sh : ∀ h ∈ l, HSmall h) :
    Calls Tryz.prog 53 #[.agg #[.int .i64 (R : Int), .int .i64 (V : Int), va], v1, .int .u64 (n : Int)] w (SkPost (R : Int) (V : Int) N (Sk.tog l V n xs) w) := by
  have H := hid h
  obtain ⟨⟨h1, h2, h3, h4⟩, h5⟩ := h
  have hNR : N = R * V := by have : (N : Int) = ((R * V : Nat) : Int) := by rw [h5]; simp
                             omega
  have hN : N ≤ 488 := by
    have : (R : Int) * (V : Int) ≤ 8 * 61 := Int.mul_le_mul h2 h4 (by omega) (by omega)
    omega
  have hal : xs.length = N := by have := ha.len; rw [len_us] at this; omega
  have hll : l.length = R := by have := hl.len; rw [len_hcs] at this; omega
  have HL := hid (And.intro hal hll)
  have HS := hid (And.intro sa sh)
  have HNR := hid hNR
  obtain ⟨A, c, rfl, hnc, hcm, hl1, hx1⟩ := ha
  obtain ⟨A2, c2, rfl, hnc2, hcm2, hl2, hx2⟩ := hl
  have HA : Hid (Sl w w.heap.size 1 (.slice A N c) N (us xs)) := hid ⟨A, c, rfl, hnc, hcm, hl1, hx1⟩
  have HX2 := hid hx2
  have t0 : ((R : Int) != (R : Int)) = false := by simp
  clear hx1 hx2 hl1 hl2 hcm hcm2 hal hll sa sh h5 hNR
  obtain ⟨wx0, hwx0⟩ : ∃ z, z = w.alloc (.cells #[.int .i64 (R : Int), .int .i64 (V : Int), .slice A N c] 62) := ⟨_, rfl⟩
  obtain ⟨w0, hw0⟩ : ∃ z, z = wx0.alloc (.cells #[.int .i64 0, .int .i64 0, .slice none 0 0] 62) := ⟨_, rfl⟩
  obtain ⟨K2, hK2⟩ : ∃ K, K = w.heap.size := ⟨_, rfl⟩
  have s0 : wx0.heap.size = K2 + 1 := by rw [hwx0]; simp [hK2]
  have q0 : Below w.heap.size w wx0 := by rw [hwx0]; exact bel_new _ _
  have s1 : w0.heap.size = K2 + 2 := by rw [hw0]; simp [s0]
  have q1 : Below wx0.heap.size wx0 w0 := by rw [hw0]; exact bel_new _ _
  have B2 : Hid (Blk w0 (K2) 62 [.int .i64 (R : Int), .int .i64 (V : Int), .slice A N c]) := hid (by rw [hK2]; exact ((show Blk wx0 w.heap.size 62 [.int .i64 (R : Int), .int .i64 (V : Int), .slice A N c] by rw [hwx0]; exact Blk.new _ _ _).on q1))
  have B3 : Hid (Blk w0 (K2 + 1) 62 [.int .i64 0, .int .i64 0, .slice none 0 0]) := hid (by rw [← s0]; exact (show Blk w0 wx0.heap.size 62 [.int .i64 0, .int .i64 0, .slice none 0 0] by rw [hw0]; exact Blk.new _ _ _))
  have HB0 : Hid (Below w.heap.size w w0) := hid (Bl.call q0 q1)
  have HW : Hid (w0 = ((w.alloc (.cells #[.int .i64 (R : Int), .int .i64 (V : Int), .slice A N c] 62)).alloc (.cells #[.int .i64 0, .int .i64 0, .slice none 0 0] 62))) := hid (by rw [hw0, hwx0])
  have HK : Hid (K2 = w.heap.size) := hid hK2
  clear hK2 hwx0 hw0 s0 q0 s1 q1
  go_enter Tryz.func53, Tryz.ntmps53
  go_upto_region 1 with (fail)
  rw [← HW.out, ← HK.out]
  have e0 := B2.out.cell 0
  have e1 := B2.out.cell 1
  have e2 := B2.out.cell 2
  go_wp2_with fail
  refine (sright_yes H.out _).mono ?_; rintro e w1 ⟨rfl, b1⟩
  clear e0 e1 e2
  have HB1 := hid (Bl.call HB0.out b1)
  replace B2 := hid (B2.out.on b1)
  replace B3 := hid (B3.out.on b1)
  clear b1
  have e0 := B2.out.cell 0
  have e1 := B2.out.cell 1
  have e2 := B2.out.cell 2
  go_wp2_with fail
  refine (uclone_any _ _ _ _ _ (HA.out.call HB1.out) (Nat.le_refl _) (by omega)).mono ?_; rintro e w2 ⟨v3, rfl, ho, b2⟩
  have BL2 : Hid (Below w1.heap.size w1 w2) := hid b2
  have HO2 : Hid (w2.ownsRow w1.heap.size 40 1 v3 N (us (Sk.part l V n xs 0 0))) := hid (by rw [Sk.part_start]; exact ho)
  have hN1 : 0 < N := by
    rw [HNR.out]
    exact Nat.mul_pos (by omega) (by omega)
  obtain ⟨g3, c3, rfl, hg3, _⟩ := own_form ho hN1
  clear e0 e1 e2 ho b2
  go_wp2_with fail
  go_loopw [28] (fun i wr => ∃ k : Nat, i = .int .i64 (k : Int) ∧ k ≤ R ∧ Hid (wr.ownsRow w1.heap.size 40 1 (.slice (some ⟨g3, 0, none⟩) N c3) N (us (Sk.part l V n xs k 0))) ∧ Hid (Below w1.heap.size w1 wr)) (fun i _ => R - (intOf i).toNat)
  case atStart => exact ⟨0, rfl, Nat.zero_le _, HO2, BL2⟩
  case round =>
    clear HO2 BL2
    obtain ⟨k, rfl, hk, HO, HB⟩ := hrel
    have C2 := hid (B2.out.below HB.out B2.out.lt)
    by_cases hlt : k < R
    · have hki : (k : Int) < (R : Int) := by omega
      obtain ⟨b, o, rfl, hbb, hc⟩ := HX2.out (by omega)
      have hkl : k < l.length := by rw [HL.out.2]; exact hlt
      obtain ⟨q0, q1⟩ := hcs_cell hc hkl
      have hbw := HB1.out.trans (HB.out.mono HB1.out.size)
      have c0 := (hbw.cell (p := ⟨b, o + k * 2, none⟩) hbb).trans q0
      have c1 := (hbw.cell (p := ⟨b, o + k * 2 + 1, none⟩) hbb).trans q1
      have hsm := HS.out.2 _ (List.getElem_mem hkl)
      have hgd : l.getD k (0, 0) = l[k] := by simp [List.getD, hkl]
      have HGD : Hid (∃ h, h = l[k]) := hid ⟨_, rfl⟩
      obtain ⟨h, hh⟩ := HGD.out
      rw [← hh] at c0 c1 hsm hgd
      have HH := hid (And.intro hgd hsm)
      have kv := C2.out.cell 1
      have kn := cell_later (bel_new wr (.cells #[.int .u64 (h.1 : Int), .int .u64 (h.2 : Int)] 42)) kv
      have hkV : k * V + V ≤ N := by
        rw [HNR.out, show k * V + V = (k + 1) * V by rw [Nat.add_mul]; omega]
        exact Nat.mul_le_mul_right V hlt
      obtain ⟨kV, hkV2⟩ : ∃ kV, kV = k * V := ⟨_, rfl⟩
      have hkVi : (k : Int) * (V : Int) = (kV : Int) := by rw [hkV2]; simp
      rw [← hkV2] at hkV
      have HKV := hid hkV2
      have HKVI := hid hkVi
      clear q0 q1 hc hbw hh hgd hsm HGD hkV2 hkVi
      go_wp2_with fail
      refine (deep_any h n V HH.out.2 rfl hn (by omega)).mono ?_; rintro e w4 ⟨d, rfl, hd, b4⟩
      have hBA : Below wr.heap.size wr w4 := (bel_new wr _).trans (b4.mono (bel_new wr _).size)
      have HB4 := hid (HB.out.trans (hBA.mono HB.out.size))
      have HO4 : Hid (w4.ownsRow w1.heap.size 40 1 (.slice (some ⟨g3, 0, none⟩) N c3) N (us (Sk.part l V n xs k 0))) := hid (own_below HO.out hBA)
      have HDP := hid hd
      have hdV : d ≤ V := hd.1
      clear b4 hBA hd kv kn c0 c1
      go_wp2_with fail
      go_loopw [38] (fun i wr => ∃ i' : Nat, i = .int .i64 (i' : Int) ∧ i' ≤ d ∧ Hid (wr.ownsRow w1.heap.size 40 1 (.slice (some ⟨g3, 0, none⟩) N c3) N (us (Sk.part l V n xs k i'))) ∧ Hid (Below w1.heap.size w1 wr)) (fun i _ => d - (intOf i).toNat)
      case atStart => exact ⟨0, rfl, Nat.zero_le _, HO4, HB4⟩
      case round =>
        clear HO4 HB4
        obtain ⟨i, rfl, hi, HO5, HB5⟩ := hrel
        by_cases hid' : i < d
        · have hii : (i : Int) < (d : Int) := by omega
          have C5 := hid (B2.out.below HB5.out B2.out.lt)
          have kv := C5.out.cell 1
          have hkVi := HKVI.out
          have hidx : kV + i < N := by omega
          have w1' : wr.cell? ⟨g3, kV + i, none⟩ = some (.int .u64 ((Sk.part l V n xs k i).getD (kV + i) 0 : Nat)) := by
            rw [HO5.out.cellAt (kV + i) (by omega), us_at _ _ (by rw [Sk.len_part, HL.out.1]; exact hidx)]
          have f1 := HO5.out.frozenAt (kV + i)
          have hst := Sk.part_set l V n xs k i (by omega)
          have hsm := Sk.small_getD (Sk.small_part (l := l) (v := V) hn HS.out.1 k i) (kV + i)
          rw [← HKV.out] at hst
          have HST := hid hst
          generalize (Sk.part l V n xs k i).getD (kV + i) 0 = x at *
          have hxn := bits_xor_u64_nat x n hsm hn
          have hiN : ((kV : Int) + (i : Int)) < (N : Int) := by omega
          clear hst
          go_wp2
          go_roundw
          case rel => exact ⟨i + 1, by go_num, by omega, by rw [← HST.out, ← us_set]; exact (HO5.out.stored (kV + i) _).1, HB5.out.setCell hg3 _⟩
          case measure => simp [intOf]; omega
        · obtain rfl : i = d := by omega
          have hii : ¬ (i : Int) < (i : Int) := by omega
          have HRW := hid (Sk.part_row l V n xs k i (by omega) (by rw [HH.out.1]; exact HDP.out))
          go_wp2
          go_roundw
          case rel => exact ⟨k + 1, by go_num, by omega, by rw [← HRW.out]; exact HO5, HB5⟩
          case measure => simp [intOf]; omega
    · obtain rfl : k = R := by omega
      have hki : ¬ (k : Int) < (k : Int) := by omega
      have C4 := hid (B3.out.below HB.out B3.out.lt)
      have e0 := C2.out.cell 0
      have e1 := C2.out.cell 1
      have g0 := C4.out.cell 0
      have g1 := C4.out.cell 1
      have g2 := C4.out.cell 2
      have f0 := C4.out.frozen 0
      have f1 := C4.out.frozen 1
      have f2 := C4.out.frozen 2
      have HF : Hid (Sk.part l V n xs k 0 = Sk.tog l V n xs) := hid (by
        have := Sk.part_all l V n xs (by rw [HL.out.1, HL.out.2]; exact HNR.out)
        rw [HL.out.2] at this
        exact this)
      have HBW := hid (HB1.out.trans (HB.out.mono HB1.out.size))
      have hK4 : K2 + 1 < w1.heap.size := B3.out.lt
      have hK5 : w.heap.size ≤ K2 + 1 := by rw [HK.out]; omega
      go_wp2
      have hsl : Sl (((wr.setCell ⟨K2 + 1, 0, none⟩ (.int .i64 (k : Int))).setCell ⟨K2 + 1, 1, none⟩ (.int .i64 (V : Int))).setCell ⟨K2 + 1, 2, none⟩ (.slice (some ⟨g3, 0, none⟩) N c3)) (((wr.setCell ⟨K2 + 1, 0, none⟩ (.int .i64 (k : Int))).setCell ⟨K2 + 1, 1, none⟩ (.int .i64 (V : Int))).setCell ⟨K2 + 1, 2, none⟩ (.slice (some ⟨g3, 0, none⟩) N c3)).heap.size 1 (.slice (some ⟨g3, 0, none⟩) N c3) N (us (Sk.tog l V n xs)) := by
        rw [← HF.out]
        have hne : g3 ≠ K2 + 1 := by omega
        exact Sl.of_own (own_far (own_far (own_far HO.out (p := ⟨K2 + 1, 0, none⟩) hne (.int .i64 (k : Int))) (p := ⟨K2 + 1, 1, none⟩) hne (.int .i64 (V : Int))) (p := ⟨K2 + 1, 2, none⟩) hne (.slice (some ⟨g3, 0, none⟩) N c3))
      exact bodyPost_ret (v := .tuple #[.agg #[.int .i64 (k : Int), .int .i64 (V : Int), .slice (some ⟨g3, 0, none⟩) N c3], .int .i64 0]) (by simp [results, Tryz.results53, go_sem, g0, g1, g2]) rfl ⟨_, rfl, hsl, ((HBW.out.setCell (p := ⟨K2 + 1, 0, none⟩) hK5 _).setCell (p := ⟨K2 + 1, 1, none⟩) hK5 _).setCell (p := ⟨K2 + 1, 2, none⟩) hK5 _⟩
end Go.Proofs.YtahodfikhocobaaGreatDoor
