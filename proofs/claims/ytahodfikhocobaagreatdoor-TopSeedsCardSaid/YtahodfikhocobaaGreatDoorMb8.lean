/- The texts TpY, TpZ, merged. No theorem here is a claim by itself. -/
import Derived.Test.YtahodfikhocobaaGreatDoorMb7
import Derived.Deep.RegionHeld3
namespace Go.Proofs.YtahodfikhocobaaGreatDoor
open Go.RowKit
set_option linter.unusedVariables false
set_option linter.unusedSimpArgs false
attribute [local go_sem ↓] Go.wp_at_zero Go.wp_at_succ
theorem exec_take {t e : TypeId} {z : Value} {sz by_ : Nat} (hT : SlT t e z sz by_) {ρ : Operand → Value} {o : Oper} {x k : Operand} (ho : o.op = .slice t x none (some k) none) {A : Option Addr} {n c kk : Nat} (hx : ρ x = .slice A n c) (hk : ρ k = .int .i64 (kk : Int)) (h : kk ≤ c) (w : World) :
  (execOp ρ o).run Tryz.prog w = .ok (.value (.slice (cutA A c 0 sz) kk c)) w := by
 unfold execOp
 rw [ho]
 simp only [hx, hk, Option.map_some, Option.map_none, Sem.run_bind, run_sliceAt_slice (P := Tryz.prog) w t _ _ _ _ (und_of hT), run_take_of hT A n c kk h w, Result.andThen_ok, Sem.run_pure]
theorem exec_drop {t e : TypeId} {z : Value} {sz by_ : Nat} (hT : SlT t e z sz by_) {ρ : Operand → Value} {o : Oper} {x k : Operand} (ho : o.op = .slice t x (some k) none none) {A : Option Addr} {n c kk : Nat} {zz : Int} (hx : ρ x = .slice A n c) (hk : ρ k = .int .i64 zz) (hz : zz = (kk : Int)) (h : kk ≤ n) (w : World) :
  (execOp ρ o).run Tryz.prog w = .ok (.value (.slice (cutA A c kk sz) (n - kk) (c - kk))) w := by
 subst hz
 unfold execOp
 rw [ho]
 simp only [hx, hk, Option.map_some, Option.map_none, Sem.run_bind, run_sliceAt_slice (P := Tryz.prog) w t _ _ _ _ (und_of hT), run_drop_of hT A n c kk h w, Result.andThen_ok, Sem.run_pure]
theorem eds_take (l : List (Int × Int × Int)) (k : Nat) : (eds l).take (k * 3) = eds (l.take k) := by
 induction k generalizing l with
 | zero => simp [eds]
 | succ k ih =>
  cases l with
  | nil => simp [eds]
  | cons a l =>
   rw [List.take_succ_cons, show (k + 1) * 3 = k * 3 + 1 + 1 + 1 by omega]
   have := ih l
   simp [eds] at this ⊢
   exact this
theorem eds_drop (l : List (Int × Int × Int)) (k : Nat) : (eds l).drop (k * 3) = eds (l.drop k) := by
 induction k generalizing l with
 | zero => simp
 | succ k ih =>
  cases l with
  | nil => simp [eds]
  | cons a l =>
   rw [List.drop_succ_cons, ← ih l, show (k + 1) * 3 = k * 3 + 1 + 1 + 1 by omega]
   simp [eds]
theorem PartsAt.call {w a : World} {vs : List Value} {ls : List (List (Int × Int × Int))} (h : PartsAt w vs ls) (hb : Below w.heap.size w a) : PartsAt a vs ls := fun i hi => by
 obtain ⟨A, c, hv, hs⟩ := h i hi
 exact ⟨A, c, hv, hs.call hb⟩
theorem parts2 {w : World} {v1 v2 : Value} {n1 n2 : Nat} {l1 l2 : List (Int × Int × Int)} (h1 : Sl w w.heap.size 3 v1 n1 (eds l1)) (h2 : Sl w w.heap.size 3 v2 n2 (eds l2)) : PartsAt w [v1, v2] [l1, l2] := by
 have e1 : n1 = l1.length := by have := h1.len; rw [len_eds] at this; omega
 have e2 : n2 = l2.length := by have := h2.len; rw [len_eds] at this; omega
 subst e1 e2
 intro i hi
 match i, hi with
 | 0, _ => obtain ⟨A, c, hv, r⟩ := id h1; subst hv; exact ⟨A, c, rfl, h1⟩
 | 1, _ => obtain ⟨A, c, hv, r⟩ := id h2; subst hv; exact ⟨A, c, rfl, h2⟩
theorem parts3 {w : World} {v1 v2 v3 : Value} {n1 n2 n3 : Nat} {l1 l2 l3 : List (Int × Int × Int)} (h1 : Sl w w.heap.size 3 v1 n1 (eds l1)) (h2 : Sl w w.heap.size 3 v2 n2 (eds l2)) (h3 : Sl w w.heap.size 3 v3 n3 (eds l3)) : PartsAt w [v1, v2, v3] [l1, l2, l3] := by
 have e1 : n1 = l1.length := by have := h1.len; rw [len_eds] at this; omega
 have e2 : n2 = l2.length := by have := h2.len; rw [len_eds] at this; omega
 have e3 : n3 = l3.length := by have := h3.len; rw [len_eds] at this; omega
 subst e1 e2 e3
 intro i hi
 match i, hi with
 | 0, _ => obtain ⟨A, c, hv, r⟩ := id h1; subst hv; exact ⟨A, c, rfl, h1⟩
 | 1, _ => obtain ⟨A, c, hv, r⟩ := id h2; subst hv; exact ⟨A, c, rfl, h2⟩
 | 2, _ => obtain ⟨A, c, hv, r⟩ := id h3; subst hv; exact ⟨A, c, rfl, h3⟩
set_option maxRecDepth 100000 in
set_option maxHeartbeats 16000000 in
theorem tremove_ok {n : Int} {v0 : Value} {m : Nat} {l : List (Int × Int × Int)} {u v : Int} {w : World} (hs : Sl w w.heap.size 3 v0 m (eds l)) (ht : TabR n l) (u1 : 0 ≤ u) (u2 : u < n) (v1 : 0 ≤ v) (v2 : v < n) {i : Nat} (hf : Tp.fiP (Pt.uv l) u v = some i) (hm : m ≤ 1000) :
  Calls Tryz.prog 29 #[.int .i64 n, v0, .int .i64 u, .int .i64 v] w (OwnTup (l.eraseIdx i) w) := by
 have hl : l.length = m := by have := hs.len; rw [len_eds] at this; omega
 have hil : i < m := by
  obtain ⟨x, hx, _⟩ := Tp.fiP_some hf
  have := (List.getElem?_eq_some_iff.1 hx).1
  rw [← hl]; simpa [Pt.uv] using this
 obtain ⟨A, c, rfl, hnc, hcm, hll, hx⟩ := hs
 have HS : Hid (Sl w w.heap.size 3 (.slice A m c) m (eds l)) := hid ⟨A, c, rfl, hnc, hcm, hll, hx⟩
 have HT := hid ht
 have HF := hid hf
 have HL := hid hl
 have HIC : Hid (i ≤ c) := hid (by omega)
 have HIM : Hid (i + 1 ≤ m) := hid (by omega)
 have HE : Hid ([l.take i, l.drop (i + 1)].flatten = l.eraseIdx i) := hid (by rw [List.eraseIdx_eq_take_drop_succ]; simp)
 have HE2 : Hid (([l.take i, l.drop (i + 1)] : List (List (Int × Int × Int))).flatten.length ≤ 100000) := hid (by simp; omega)
 have hi63 : (i : Int) ≤ 1000 := by omega
 have HZW : Hid (IntKind.i64.wrap ((i : Int) + 1) = ((i + 1 : Nat) : Int)) := hid (by rw [IntKind.wrap_i64]; omega)
 clear ht hf hl hnc hcm hll hx
 go_enter Tryz.func29, Tryz.ntmps29
 go_wp2_with fail
 refine (tright_is HS.out true ⟨fun _ => rfl, fun _ => HT.out⟩).mono ?_; rintro e w2 ⟨rfl, b2⟩
 have HB2 := hid b2
 have HS2 := hid (HS.out.call b2)
 clear b2
 go_wp2_with fail
 refine (tvertex_yes u1 u2 _).mono ?_; rintro e w' ⟨rfl, rfl⟩
 go_wp2_with fail
 refine (tvertex_yes v1 v2 _).mono ?_; rintro e w' ⟨rfl, rfl⟩
 go_wp2_with fail
 refine (nfind_is HS2.out HF.out).mono ?_; rintro e w3 ⟨rfl, b3⟩
 have HB3 := hid (Bl.call HB2.out b3)
 have HS3 := hid (HS2.out.call b3)
 clear b3
 have U1 : Hid (Sl w3 w3.heap.size 3 (.slice (cutA A c 0 3) i c) i (eds (l.take i))) := hid (by rw [← eds_take]; exact HS3.out.take (by omega))
 have U2 : Hid (Sl w3 w3.heap.size 3 (.slice (cutA A c (i + 1) 3) (m - (i + 1)) (c - (i + 1))) (m - (i + 1)) (eds (l.drop (i + 1)))) := hid (by rw [← eds_drop]; exact HS3.out.drop (by omega))
 go_wp2_with fail
 refine wp_region_held_drew (S := fun _ => True) (by kernel_rfl) trivial (fun hHeld => ?_)
 refine wpAnyH_take (i := 0) (oi := _) (v := ?rv1) rfl (by kernel_rfl) (by kernel_rfl) (by kernel_rfl) (fun _ _ _ h => h) (Or.inl ⟨by rfl, ?ry1⟩) (by assumption) ?rr1
 case ry1 => (intro w hSw; (try dsimp only at hSw); go_simp; try (with_reducible rfl))
 (try simp only [Act.put, putL])
 refine wpAnyH_take (i := 1) (oi := _) (v := ?rv2) rfl (by kernel_rfl) (by kernel_rfl) (by kernel_rfl) (fun _ _ _ h => h) (Or.inl ⟨by rfl, ?ry2⟩) (by assumption) ?rr2
 case ry2 => (intro w hSw; (try dsimp only at hSw); go_simp; try (with_reducible rfl))
 (try simp only [Act.put, putL])
 refine wpAnyH_take (i := 2) (oi := _) (v := ?rv3) rfl (by kernel_rfl) (by kernel_rfl) (by kernel_rfl) (fun _ _ _ h => h) (Or.inl ⟨by rfl, ?ry3⟩) (by assumption) ?rr3
 case ry3 => (intro w hSw; refine exec_take (A := A) (n := m) (c := c) (kk := i) (x := .tmp 39) (k := .tmp 40) Tedg ?_ ?_ ?_ HIC.out _ <;> rfl)
 (try simp only [Act.put, putL])
 refine wpAnyH_take (i := 3) (oi := _) (v := ?rv4) rfl (by kernel_rfl) (by kernel_rfl) (by kernel_rfl) (fun _ _ _ h => h) (Or.inl ⟨by rfl, ?ry4⟩) (by assumption) ?rr4
 case ry4 => (intro w hSw; (try dsimp only at hSw); go_simp; try (with_reducible rfl))
 (try simp only [Act.put, putL])
 refine wpAnyH_take (i := 4) (oi := _) (v := ?rv5) rfl (by kernel_rfl) (by kernel_rfl) (by kernel_rfl) (fun _ _ _ h => h) (Or.inl ⟨by rfl, ?ry5⟩) (by assumption) ?rr5
 case ry5 => (intro w hSw; (try dsimp only at hSw); go_simp; try (with_reducible rfl))
 (try simp only [Act.put, putL])
 refine wpAnyH_take (i := 5) (oi := _) (v := ?rv6) rfl (by kernel_rfl) (by kernel_rfl) (by kernel_rfl) (fun _ _ _ h => h) (Or.inl ⟨by rfl, ?ry6⟩) (by assumption) ?rr6
 case ry6 => (intro w hSw; (try dsimp only at hSw); go_simp; try (with_reducible rfl))
 (try simp only [Act.put, putL])
 refine wpAnyH_take (i := 6) (oi := _) (v := ?rv7) rfl (by kernel_rfl) (by kernel_rfl) (by kernel_rfl) (fun _ _ _ h => h) (Or.inl ⟨by rfl, ?ry7⟩) (by assumption) ?rr7
 case ry7 => (intro w hSw; refine exec_drop (A := A) (n := m) (c := c) (kk := i + 1) (zz := IntKind.i64.wrap ((i : Int) + 1)) (x := .tmp 42) (k := .tmp 44) Tedg ?_ ?_ ?_ HZW.out HIM.out _ <;> rfl)
 (try simp only [Act.put, putL])
 refine wpAnyH_ready (rs := [7]) (by kernel_rfl) (by simp) ?_
 refine AllReadyH.cons (o := _) rfl (fun K hK => ?_) ?_
 ·
  go_simp
  refine hK.out _ _ ?_ (fun hHeld => ?_)
  · trivial
  clear hK K
  (try simp only [Act.put, putL])
  refine wpAnyH_ready (rs := [8]) (by kernel_rfl) (by simp) ?_
  refine AllReadyH.cons (o := _) rfl (fun K hK => ?_) ?_
  ·
   go_simp
   go_at_call 55
   refine (concat_any (K := w3.drew.heap.size) (k := 2) (vs := [.slice (cutA A c 0 3) i c, .slice (cutA A c (i + 1) 3) (m - (i + 1)) (c - (i + 1))]) (ls := [l.take i, l.drop (i + 1)]) (Blk.new w3.drew 26 _) rfl (parts2 ((U1.out.cqt (qt_drew _)).new _) ((U2.out.cqt (qt_drew _)).new _)) HE2.out (by decide) rfl).mono ?_
   rintro e w9 ⟨v9, rfl, s9, b9⟩
   refine hK.out _ _ ?_ (fun hHeld => ?_)
   · trivial
   clear hK K
   (try simp only [Act.put, putL])
   refine wpAnyH_ready (rs := [9]) (by kernel_rfl) (by simp) ?_
   refine AllReadyH.cons (o := _) rfl (fun K hK => ?_) ?_
   ·
    go_simp
    refine hK.out _ _ ?_ (fun hHeld => ?_)
    · trivial
    clear hK K
    (try simp only [Act.put, putL])
    refine wpAnyH_ready (rs := [10]) (by kernel_rfl) (by simp) ?_
    refine AllReadyH.cons (o := _) rfl (fun K hK => ?_) ?_
    ·
     go_simp
     refine hK.out _ _ ?_ (fun hHeld => ?_)
     · trivial
     clear hK K
     (try simp only [Act.put, putL])
     refine wpAnyH_done (by kernel_rfl) ?_ _
     go_wp2
     go_ret2
     have BB := Bl.new (Bl.qt HB3.out (qt_drew _)) (.cells #[.slice (cutA A c 0 3) i c, .slice (cutA A c (i + 1) 3) (m - (i + 1)) (c - (i + 1))] 26)
     exact ⟨v9, rfl, by rw [← HE.out]; exact own_more s9 BB.size, Bl.call BB b9⟩
    exact AllReadyH.nil
   exact AllReadyH.nil
  exact AllReadyH.nil
 exact AllReadyH.nil
set_option maxRecDepth 100000 in
set_option maxHeartbeats 16000000 in
theorem tadd_loop {n : Int} {v0 : Value} {m : Nat} {l : List (Int × Int × Int)} {u : Int} {w : World} (hs : Sl w w.heap.size 3 v0 m (eds l)) (ht : TabR n l) (u1 : 0 ≤ u) (u2 : u < n) :
  Calls Tryz.prog 34 #[.int .i64 n, v0, .int .i64 u, .int .i64 u] w fun e w' => e = .returned (.tuple #[v0, .int .i64 8]) ∧ Below w.heap.size w w' := by
 have HS := hid hs
 have HT := hid ht
 have v1 := u1
 have v2 := u2
 have e1 : (u == u) = true := by simp
 clear hs ht
 go_enter Tryz.func34, Tryz.ntmps34
 go_wp2_with fail
 refine (tright_is HS.out true ⟨fun _ => rfl, fun _ => HT.out⟩).mono ?_; rintro e w2 ⟨rfl, b2⟩
 have HB2 := hid b2
 have HS2 := hid (HS.out.call b2)
 clear b2
 go_wp2_with fail
 refine (tvertex_yes u1 u2 _).mono ?_; rintro e w' ⟨rfl, rfl⟩
 go_wp2_with fail
 refine (tvertex_yes v1 v2 _).mono ?_; rintro e w' ⟨rfl, rfl⟩
 go_wp2
 go_ret2
 exact ⟨rfl, HB2.out⟩
set_option maxRecDepth 100000 in
set_option maxHeartbeats 16000000 in
theorem tadd_there {n : Int} {v0 : Value} {m : Nat} {l : List (Int × Int × Int)} {u v : Int} {w : World} (hs : Sl w w.heap.size 3 v0 m (eds l)) (ht : TabR n l) (u1 : 0 ≤ u) (u2 : u < n) (v1 : 0 ≤ v) (v2 : v < n) (huv : u ≠ v) {i : Nat} (hf : Tp.fiP (Pt.uv l) u v = some i) :
  Calls Tryz.prog 34 #[.int .i64 n, v0, .int .i64 u, .int .i64 v] w fun e w' => e = .returned (.tuple #[v0, .int .i64 4]) ∧ Below w.heap.size w w' := by
 have HS := hid hs
 have HT := hid ht
 have HF := hid hf
 have e1 : (u == v) = false := by simp [huv]
 clear hs ht huv hf
 go_enter Tryz.func34, Tryz.ntmps34
 go_wp2_with fail
 refine (tright_is HS.out true ⟨fun _ => rfl, fun _ => HT.out⟩).mono ?_; rintro e w2 ⟨rfl, b2⟩
 have HB2 := hid b2
 have HS2 := hid (HS.out.call b2)
 clear b2
 go_wp2_with fail
 refine (tvertex_yes u1 u2 _).mono ?_; rintro e w' ⟨rfl, rfl⟩
 go_wp2_with fail
 refine (tvertex_yes v1 v2 _).mono ?_; rintro e w' ⟨rfl, rfl⟩
 go_wp2_with fail
 refine (nfind_is HS2.out HF.out).mono ?_; rintro e w3 ⟨rfl, b3⟩
 have HB3 := hid (Bl.call HB2.out b3)
 clear b3
 go_wp2
 go_ret2
 exact ⟨rfl, HB3.out⟩
theorem tremove_none {n : Int} {v0 : Value} {m : Nat} {l : List (Int × Int × Int)} {u v : Int} {w : World} (hs : Sl w w.heap.size 3 v0 m (eds l)) (ht : TabR n l) (u1 : 0 ≤ u) (u2 : u < n) (v1 : 0 ≤ v) (v2 : v < n) (hf : Tp.fiP (Pt.uv l) u v = none) :
  Calls Tryz.prog 29 #[.int .i64 n, v0, .int .i64 u, .int .i64 v] w fun e w' => e = .returned (.tuple #[v0, .int .i64 9]) ∧ Below w.heap.size w w' := by
 have HS := hid hs
 have HT := hid ht
 have HF := hid hf
 clear hs ht hf
 go_enter Tryz.func29, Tryz.ntmps29
 go_wp2_with fail
 refine (tright_is HS.out true ⟨fun _ => rfl, fun _ => HT.out⟩).mono ?_; rintro e w2 ⟨rfl, b2⟩
 have HB2 := hid b2
 have HS2 := hid (HS.out.call b2)
 clear b2
 go_wp2_with fail
 refine (tvertex_yes u1 u2 _).mono ?_; rintro e w' ⟨rfl, rfl⟩
 go_wp2_with fail
 refine (tvertex_yes v1 v2 _).mono ?_; rintro e w' ⟨rfl, rfl⟩
 go_wp2_with fail
 refine (nfind_no HS2.out HF.out).mono ?_; rintro e w3 ⟨rfl, b3⟩
 have HB3 := hid (Bl.call HB2.out b3)
 clear b3
 go_wp2
 go_ret2
 exact ⟨rfl, HB3.out⟩
theorem lsB_low2 (l : List (Int × Int × Int)) (d : Int × Int × Int) (i : Nat) (hi : i ≤ l.length) (h1 : ∀ j, (h : j < l.length) → j < i → lessE l[j] d = true) (h2 : ∀ h : i < l.length, lessE l[i] d = false) :
  l.takeWhile (fun e => Tp.lsB e d) = l.take i ∧ l.dropWhile (fun e => Tp.lsB e d) = l.drop i := by
 induction l generalizing i with
 | nil => simp
 | cons a l ih =>
  cases i with
  | zero =>
   have := h2 (by simp)
   have h3 : Tp.lsB a d = false := this
   simp [List.takeWhile_cons, List.dropWhile_cons, h3]
  | succ i =>
   have h3 : Tp.lsB a d = true := h1 0 (by simp) (by omega)
   obtain ⟨k1, k2⟩ := ih i (by simpa using hi) (fun j h hj => h1 (j + 1) (by simpa using h) (by omega)) (fun h => h2 (by simpa using h))
   simp [List.takeWhile_cons, List.dropWhile_cons, h3, k1, k2]
set_option maxRecDepth 100000 in
set_option maxHeartbeats 16000000 in
theorem tadd_lt {n : Int} {v0 : Value} {m : Nat} {l : List (Int × Int × Int)} {u v : Int} {w : World} (hs : Sl w w.heap.size 3 v0 m (eds l)) (ht : TabR n l) (u1 : 0 ≤ u) (u2 : u < n) (v1 : 0 ≤ v) (v2 : v < n) (huv : u < v) (hf : Tp.fiP (Pt.uv l) u v = none) (hm : m ≤ 1000) :
  Calls Tryz.prog 34 #[.int .i64 n, v0, .int .i64 u, .int .i64 v] w (OwnTup (Tp.addF l u v) w) := by
 have hl : l.length = m := by have := hs.len; rw [len_eds] at this; omega
 have HNE : Hid (Tp.newE u v = (u, v, 0)) := hid (by unfold Tp.newE; rw [Int.min_eq_left (by omega), Int.max_eq_right (by omega)])
 obtain ⟨A, c, rfl, hnc, hcm, hll, hx⟩ := hs
 have HS : Hid (Sl w w.heap.size 3 (.slice A m c) m (eds l)) := hid ⟨A, c, rfl, hnc, hcm, hll, hx⟩
 have HT := hid ht
 have HF := hid hf
 have HL := hid hl
 have HX := hid hx
 have HC : Hid (m ≤ c) := hid hnc
 have hm63 : m ≤ 9223372036854775807 := by omega
 have e1 : (u == v) = false := by simp; omega
 have a6 : u ≤ v := by omega
 have a7 : ¬ v ≤ u := by omega
 have a9 : ¬ v < u := by omega
 clear ht hf hl hnc hcm hll hx
 go_enter Tryz.func34, Tryz.ntmps34
 go_wp2_with fail
 refine (tright_is HS.out true ⟨fun _ => rfl, fun _ => HT.out⟩).mono ?_; rintro e w2 ⟨rfl, b2⟩
 have HB2 := hid b2
 have HS2 := hid (HS.out.call b2)
 clear b2
 go_wp2_with fail
 refine (tvertex_yes u1 u2 _).mono ?_; rintro e w' ⟨rfl, rfl⟩
 go_wp2_with fail
 refine (tvertex_yes v1 v2 _).mono ?_; rintro e w' ⟨rfl, rfl⟩
 go_wp2_with fail
 refine (nfind_no HS2.out HF.out).mono ?_; rintro e w3 ⟨rfl, b3⟩
 have HB3 := hid (Bl.call HB2.out b3)
 have HS3 := hid (HS2.out.call b3)
 clear b3
 obtain ⟨w4, hw4⟩ : ∃ W, W = w3.alloc (.cells #[.int .i64 u, .int .i64 v, .int .i64 0] 35) := ⟨_, rfl⟩
 obtain ⟨K, hK⟩ : ∃ K, K = w3.heap.size := ⟨_, rfl⟩
 have D4 : Hid (Blk w4 K 35 [.int .i64 u, .int .i64 v, .int .i64 0]) := hid (by rw [hw4, hK]; exact Blk.new _ _ _)
 have HB4 : Hid (Below w.heap.size w w4) := hid (by rw [hw4]; exact Bl.new HB3.out _)
 have HS4 : Hid (Sl w4 w4.heap.size 3 (.slice A m c) m (eds l)) := hid (by rw [hw4]; exact HS3.out.new _)
 have HW4 := hid hw4
 have HK := hid hK
 clear hw4 hK HS3 HB3
 go_wp2_with fail
 rw [← HK.out, ← HW4.out]
 go_loopw [13] (fun iv wr => ∃ i : Nat, iv = .int .i64 (i : Int) ∧ i ≤ m ∧ Hid (∀ j, (h : j < l.length) → j < i → lessE l[j] (u, v, 0) = true) ∧ Hid (Below w4.heap.size w4 wr)) (fun iv _ => m - (intOf iv).toNat)
 case atStart => exact ⟨0, rfl, Nat.zero_le _, hid (fun j _ hj => absurd hj (Nat.not_lt_zero _)), hid (Below.refl _ _)⟩
 case round =>
  obtain ⟨i, rfl, hi, HP, HBr⟩ := hrel
  have Dr := hid (D4.out.below HBr.out D4.out.lt)
  have HSr := hid (HS4.out.call HBr.out)
  have HB5 := hid (Bl.call HB4.out HBr.out)
  have k0 := Dr.out.cell 0
  have k1 := Dr.out.cell 1
  have k2 := Dr.out.cell 2
  have HIM : Hid (i ≤ m) := hid hi
  have HIC : Hid (i ≤ c) := hid (Nat.le_trans hi HC.out)
  have hi63 : (i : Int) ≤ 1000 := by omega
  have U1 : Hid (∀ w9 : World, Below wr.heap.size wr w9 → Sl w9 w9.heap.size 3 (.slice (cutA A c 0 3) i c) i (eds (l.take i))) := hid (fun w9 b => by have h := HSr.out.take (k := i) hi; rw [eds_take] at h; exact h.call b)
  have U2 : Hid (∀ w9 : World, Below wr.heap.size wr w9 → Sl w9 w9.heap.size 3 (.slice (cutA A c i 3) (m - i) (c - i)) (m - i) (eds (l.drop i))) := hid (fun w9 b => by have h := HSr.out.drop (k := i) hi; rw [eds_drop] at h; exact h.call b)
  have HE2 : Hid (([l.take i, [(u, v, (0 : Int))], l.drop i] : List (List (Int × Int × Int))).flatten.length ≤ 100000) := hid (by have := HL.out; simp; omega)
  by_cases hlt : i < m
  case pos =>
   have j0 : (i : Int) < (m : Int) := by omega
   have hil : i < l.length := by rw [HL.out]; exact hlt
   obtain ⟨b6, o6, rfl, hb6, hc6⟩ := HX.out (by omega)
   obtain ⟨p0, p1, p2⟩ := eds_cell hc6 hil
   have q0 := (HB5.out.cell (p := ⟨b6, o6 + i * 3, none⟩) hb6).trans p0
   have q1 := (HB5.out.cell (p := ⟨b6, o6 + i * 3 + 1, none⟩) hb6).trans p1
   have q2 := (HB5.out.cell (p := ⟨b6, o6 + i * 3 + 2, none⟩) hb6).trans p2
   have HNX := hid (fun (hb : lessE l[i] (u, v, 0) = true) (j : Nat) (h : j < l.length) (hj : j < i + 1) => show lessE l[j] (u, v, 0) = true from by
    rcases Nat.lt_or_ge j i with h3 | h3
    · exact HP.out j h h3
    ·
     have : j = i := by omega
     subst this; exact hb)
   have HEN := hid (fun (hb : lessE l[i] (u, v, 0) = false) => show [l.take i, [(u, v, (0 : Int))], l.drop i].flatten = Tp.addF l u v from by
    obtain ⟨g1, g2⟩ := lsB_low2 l (u, v, 0) i (by omega) HP.out (fun _ => hb)
    unfold Tp.addF
    rw [HNE.out, g1, g2]; simp)
   obtain ⟨e, he⟩ : ∃ e, e = l[i] := ⟨_, rfl⟩
   rw [← he] at q0 q1 q2 HNX HEN
   obtain ⟨px, py, pt⟩ := e
   dsimp only at q0 q1 q2
   clear he p0 p1 p2 hc6 hil
   cases hls : lessE (px, py, pt) (u, v, 0) with
   | true =>
    have HN2 := hid (HNX.out hls)
    have HLS := hid hls
    clear hls HNX HEN
    go_wp2_with fail
    go_region_held3 (fun w' => w'.cell? ⟨b6, o6 + i * 3, none⟩ = some (.int .i64 px) ∧ w'.cell? ⟨b6, o6 + i * 3 + 1, none⟩ = some (.int .i64 py) ∧ w'.cell? ⟨b6, o6 + i * 3 + 2, none⟩ = some (.int .i64 pt) ∧ w'.cell? ⟨K, 0, none⟩ = some (.int .i64 u) ∧ w'.cell? ⟨K, 1, none⟩ = some (.int .i64 v) ∧ w'.cell? ⟨K, 2, none⟩ = some (.int .i64 0))
     (first | go_keep | (go_split_ands; and_intros <;> (first | (refine cell_later (by assumption) ?_; first | assumption | (rw [Qt.cell (qt_of _ _)]; assumption) | (rw [Qt.cell (qt_drew _)]; assumption)) | (refine cell_later (bel_new _ _) ?_; assumption))) | (refine cell_later (by assumption) ?_; first | assumption | (rw [Qt.cell (qt_of _ _)]; assumption) | (rw [Qt.cell (qt_drew _)]; assumption)) | (refine cell_later (bel_new _ _) ?_; assumption))
     ((go_at_call 57; (with_reducible refine (less_is true HLS.out _).mono ?_); rintro e w5 ⟨rfl, b5⟩))
    all_goals
     go_wp2_with fail
     go_roundw
     case rel => exact ⟨i + 1, by go_num, by omega, HN2, hid (by repeat (first | exact HBr.out | refine Bl.new ?_ _ | refine Bl.call ?_ (by assumption) | refine Bl.qt ?_ (by assumption) | refine Bl.qt ?_ (qt_drew _) | refine Bl.qt ?_ (qt_of _ _)))⟩
     case measure => simp [intOf]; omega
   | false =>
    have HEE := hid (HEN.out hls)
    have HLS := hid hls
    clear hls HNX HEN
    go_wp2_with fail
    go_region_held3 (fun w' => w'.cell? ⟨b6, o6 + i * 3, none⟩ = some (.int .i64 px) ∧ w'.cell? ⟨b6, o6 + i * 3 + 1, none⟩ = some (.int .i64 py) ∧ w'.cell? ⟨b6, o6 + i * 3 + 2, none⟩ = some (.int .i64 pt) ∧ w'.cell? ⟨K, 0, none⟩ = some (.int .i64 u) ∧ w'.cell? ⟨K, 1, none⟩ = some (.int .i64 v) ∧ w'.cell? ⟨K, 2, none⟩ = some (.int .i64 0))
     (first | go_keep | (go_split_ands; and_intros <;> (first | (refine cell_later (by assumption) ?_; first | assumption | (rw [Qt.cell (qt_of _ _)]; assumption) | (rw [Qt.cell (qt_drew _)]; assumption)) | (refine cell_later (bel_new _ _) ?_; assumption))) | (refine cell_later (by assumption) ?_; first | assumption | (rw [Qt.cell (qt_of _ _)]; assumption) | (rw [Qt.cell (qt_drew _)]; assumption)) | (refine cell_later (bel_new _ _) ?_; assumption))
     ((go_at_call 57; (with_reducible refine (less_is false HLS.out _).mono ?_); rintro e w5 ⟨rfl, b5⟩))
    all_goals
     have B95 : Below wr.heap.size wr w5 := Bl.call (Bl.qt (Below.refl _ _) (by first | exact qt_drew _ | exact qt_of _ _ | exact Qt.refl _)) b5
     have D5 := hid (Dr.out.on B95)
     have HB6 := hid (Bl.call HB5.out B95)
     have HBW := hid B95
     clear k0 k1 k2 q0 q1 q2 b5 B95
     have k0 := D5.out.cell 0
     have k1 := D5.out.cell 1
     have k2 := D5.out.cell 2
     go_wp2_with fail
     refine wp_region_held_drew (S := fun w' => w'.cell? ⟨K, 0, none⟩ = some (.int .i64 u) ∧ w'.cell? ⟨K, 1, none⟩ = some (.int .i64 v) ∧ w'.cell? ⟨K, 2, none⟩ = some (.int .i64 0)) (by kernel_rfl) ⟨k0, k1, k2⟩ (fun hHeld => ?_)
     refine wpAnyH_take (i := 0) (oi := _) (v := ?rv15) rfl (by kernel_rfl) (by kernel_rfl) (by kernel_rfl) (fun _ _ _ h => h) (Or.inl ⟨by rfl, ?ry15⟩) (by assumption) ?rr15
     case ry15 => (intro w hSw; (try dsimp only at hSw); go_simp; try (with_reducible rfl))
     (try simp only [Act.put, putL])
     refine wpAnyH_take (i := 1) (oi := _) (v := ?rv16) rfl (by kernel_rfl) (by kernel_rfl) (by kernel_rfl) (fun _ _ _ h => h) (Or.inl ⟨by rfl, ?ry16⟩) (by assumption) ?rr16
     case ry16 => (intro w hSw; (try dsimp only at hSw); go_simp; try (with_reducible rfl))
     (try simp only [Act.put, putL])
     refine wpAnyH_take (i := 2) (oi := _) (v := ?rv17) rfl (by kernel_rfl) (by kernel_rfl) (by kernel_rfl) (fun _ _ _ h => h) (Or.inl ⟨by rfl, ?ry17⟩) (by assumption) ?rr17
     case ry17 => (intro w hSw; refine exec_take (A := (some ⟨b6, o6, none⟩)) (n := m) (c := c) (kk := i) (x := .tmp 65) (k := .tmp 66) Tedg ?_ ?_ ?_ HIC.out _ <;> rfl)
     (try simp only [Act.put, putL])
     refine wpAnyH_take (i := 3) (oi := _) (v := ?rv18) rfl (by kernel_rfl) (by kernel_rfl) (by kernel_rfl) (fun _ _ _ h => h) (Or.inl ⟨by rfl, ?ry18⟩) (by assumption) ?rr18
     case ry18 => (intro w hSw; obtain ⟨g0, g1, g2⟩ := hSw; go_simp; try (with_reducible rfl))
     (try simp only [Act.put, putL])
     refine wpAnyH_take (i := 5) (oi := _) (v := ?rv19) rfl (by kernel_rfl) (by kernel_rfl) (by kernel_rfl) (fun _ _ _ h => h) (Or.inl ⟨by rfl, ?ry19⟩) (by assumption) ?rr19
     case ry19 => (intro w hSw; (try dsimp only at hSw); go_simp; try (with_reducible rfl))
     (try simp only [Act.put, putL])
     refine wpAnyH_take (i := 6) (oi := _) (v := ?rv20) rfl (by kernel_rfl) (by kernel_rfl) (by kernel_rfl) (fun _ _ _ h => h) (Or.inl ⟨by rfl, ?ry20⟩) (by assumption) ?rr20
     case ry20 => (intro w hSw; (try dsimp only at hSw); go_simp; try (with_reducible rfl))
     (try simp only [Act.put, putL])
     refine wpAnyH_take (i := 7) (oi := _) (v := ?rv21) rfl (by kernel_rfl) (by kernel_rfl) (by kernel_rfl) (fun _ _ _ h => h) (Or.inl ⟨by rfl, ?ry21⟩) (by assumption) ?rr21
     case ry21 => (intro w hSw; refine exec_drop (A := (some ⟨b6, o6, none⟩)) (n := m) (c := c) (kk := i) (zz := (i : Int)) (x := .tmp 70) (k := .tmp 71) Tedg ?_ ?_ ?_ rfl HIM.out _ <;> rfl)
     (try simp only [Act.put, putL])
     refine wpAnyH_ready (rs := [4]) (by kernel_rfl) (by simp) ?_
     refine AllReadyH.cons (o := _) rfl (fun K hK => ?_) ?_
     ·
      go_simp
      refine hK.out _ _ ?_ (fun hHeld => ?_)
      · (first | go_keep | (go_split_ands; and_intros <;> (first | (refine cell_later (by assumption) ?_; first | assumption | (rw [Qt.cell (qt_of _ _)]; assumption) | (rw [Qt.cell (qt_drew _)]; assumption)) | (refine cell_later (bel_new _ _) ?_; assumption))) | (refine cell_later (by assumption) ?_; first | assumption | (rw [Qt.cell (qt_of _ _)]; assumption) | (rw [Qt.cell (qt_drew _)]; assumption)) | (refine cell_later (bel_new _ _) ?_; assumption))
      clear hK K
      (try simp only [Act.put, putL])
      refine wpAnyH_ready (rs := [8]) (by kernel_rfl) (by simp) ?_
      refine AllReadyH.cons (o := _) rfl (fun K hK => ?_) ?_
      ·
       go_simp
       refine hK.out _ _ ?_ (fun hHeld => ?_)
       · (first | go_keep | (go_split_ands; and_intros <;> (first | (refine cell_later (by assumption) ?_; first | assumption | (rw [Qt.cell (qt_of _ _)]; assumption) | (rw [Qt.cell (qt_drew _)]; assumption)) | (refine cell_later (bel_new _ _) ?_; assumption))) | (refine cell_later (by assumption) ?_; first | assumption | (rw [Qt.cell (qt_of _ _)]; assumption) | (rw [Qt.cell (qt_drew _)]; assumption)) | (refine cell_later (bel_new _ _) ?_; assumption))
       clear hK K
       (try simp only [Act.put, putL])
       refine wpAnyH_ready (rs := [9]) (by kernel_rfl) (by simp) ?_
       refine AllReadyH.cons (o := _) rfl (fun K hK => ?_) ?_
       ·
        go_simp
        go_at_call 55
        have BA : Below w5.heap.size w5 (w5.drew.alloc (.cells #[.int .i64 u, .int .i64 v, .int .i64 0] 35)) := Bl.new (Bl.qt (Below.refl _ _) (qt_drew _)) _
        have BW : Below wr.heap.size wr (w5.drew.alloc (.cells #[.int .i64 u, .int .i64 v, .int .i64 0] 35)) := Bl.call HBW.out BA
        have S1 : Sl (w5.drew.alloc (.cells #[.int .i64 u, .int .i64 v, .int .i64 0] 35)) (w5.drew.alloc (.cells #[.int .i64 u, .int .i64 v, .int .i64 0] 35)).heap.size 3 (.slice (some ⟨w5.heap.size, 0, none⟩) 1 1) 1 (eds [(u, v, 0)]) := (Blk.new w5.drew 35 [.int .i64 u, .int .i64 v, .int .i64 0]).sl (sz := 3) (by simp) (Nat.le_refl _) (by unfold maxLen; omega) rfl
        have hK3 : (w5.drew.alloc (.cells #[.int .i64 u, .int .i64 v, .int .i64 0] 35)).heap.size = w5.heap.size + 1 := by simp
        have D3 : Blk ((w5.drew.alloc (.cells #[.int .i64 u, .int .i64 v, .int .i64 0] 35)).alloc (.cells #[.slice (cutA (some ⟨b6, o6, none⟩) c 0 3) i c, .slice (some ⟨w5.heap.size, 0, none⟩) 1 1, .slice (cutA (some ⟨b6, o6, none⟩) c i 3) (m - i) (c - i)] 26)) (w5.heap.size + 1) 26 [.slice (cutA (some ⟨b6, o6, none⟩) c 0 3) i c, .slice (some ⟨w5.heap.size, 0, none⟩) 1 1, .slice (cutA (some ⟨b6, o6, none⟩) c i 3) (m - i) (c - i)] := by rw [← hK3]; exact Blk.new _ _ _
        have P3 : PartsAt ((w5.drew.alloc (.cells #[.int .i64 u, .int .i64 v, .int .i64 0] 35)).alloc (.cells #[.slice (cutA (some ⟨b6, o6, none⟩) c 0 3) i c, .slice (some ⟨w5.heap.size, 0, none⟩) 1 1, .slice (cutA (some ⟨b6, o6, none⟩) c i 3) (m - i) (c - i)] 26)) [.slice (cutA (some ⟨b6, o6, none⟩) c 0 3) i c, .slice (some ⟨w5.heap.size, 0, none⟩) 1 1, .slice (cutA (some ⟨b6, o6, none⟩) c i 3) (m - i) (c - i)] [l.take i, [(u, v, 0)], l.drop i] := parts3 (Sl.new (U1.out _ BW) _) (Sl.new S1 _) (Sl.new (U2.out _ BW) _)
        refine (concat_any (k := 3) D3 rfl P3 HE2.out (by decide) rfl).mono ?_
        rintro e w9 ⟨v9, rfl, s9, b9⟩
        refine hK.out _ _ ?_ (fun hHeld => ?_)
        · (first | go_keep | (go_split_ands; and_intros <;> (first | (refine cell_later (by assumption) ?_; first | assumption | (rw [Qt.cell (qt_of _ _)]; assumption) | (rw [Qt.cell (qt_drew _)]; assumption)) | (refine cell_later (bel_new _ _) ?_; assumption))) | (refine cell_later (by assumption) ?_; first | assumption | (rw [Qt.cell (qt_of _ _)]; assumption) | (rw [Qt.cell (qt_drew _)]; assumption)) | (refine cell_later (bel_new _ _) ?_; assumption))
        clear hK K
        (try simp only [Act.put, putL])
        refine wpAnyH_ready (rs := [10]) (by kernel_rfl) (by simp) ?_
        refine AllReadyH.cons (o := _) rfl (fun K hK => ?_) ?_
        ·
         go_simp
         refine hK.out _ _ ?_ (fun hHeld => ?_)
         · (first | go_keep | (go_split_ands; and_intros <;> (first | (refine cell_later (by assumption) ?_; first | assumption | (rw [Qt.cell (qt_of _ _)]; assumption) | (rw [Qt.cell (qt_drew _)]; assumption)) | (refine cell_later (bel_new _ _) ?_; assumption))) | (refine cell_later (by assumption) ?_; first | assumption | (rw [Qt.cell (qt_of _ _)]; assumption) | (rw [Qt.cell (qt_drew _)]; assumption)) | (refine cell_later (bel_new _ _) ?_; assumption))
         clear hK K
         (try simp only [Act.put, putL])
         refine wpAnyH_ready (rs := [11]) (by kernel_rfl) (by simp) ?_
         refine AllReadyH.cons (o := _) rfl (fun K hK => ?_) ?_
         ·
          go_simp
          refine hK.out _ _ ?_ (fun hHeld => ?_)
          · (first | go_keep | (go_split_ands; and_intros <;> (first | (refine cell_later (by assumption) ?_; first | assumption | (rw [Qt.cell (qt_of _ _)]; assumption) | (rw [Qt.cell (qt_drew _)]; assumption)) | (refine cell_later (bel_new _ _) ?_; assumption))) | (refine cell_later (by assumption) ?_; first | assumption | (rw [Qt.cell (qt_of _ _)]; assumption) | (rw [Qt.cell (qt_drew _)]; assumption)) | (refine cell_later (bel_new _ _) ?_; assumption))
          clear hK K
          (try simp only [Act.put, putL])
          refine wpAnyH_done (by kernel_rfl) ?_ _
          go_wp2
          go_ret2
          exact ⟨v9, rfl, by rw [← HEE.out]; exact own_more s9 (Bl.new (Bl.call HB6.out BA) _).size, Bl.call (Bl.new (Bl.call HB6.out BA) _) b9⟩
         exact AllReadyH.nil
        exact AllReadyH.nil
       exact AllReadyH.nil
      exact AllReadyH.nil
     exact AllReadyH.nil
  case neg =>
   have j0 : ¬ (i : Int) < (m : Int) := by omega
   obtain rfl : i = m := by omega
   have HEE : Hid ([l.take i, [(u, v, (0 : Int))], l.drop i].flatten = Tp.addF l u v) := hid (by
    obtain ⟨g1, g2⟩ := lsB_low2 l (u, v, 0) i (by rw [HL.out]; exact Nat.le_refl _) HP.out (fun h => absurd h (by rw [HL.out]; omega))
    unfold Tp.addF
    rw [HNE.out, g1, g2]; simp)
   go_wp2_with fail
   go_quiet (fail)
   rename_i nq
   obtain ⟨w5, hw5⟩ : ∃ W, W = wr.drewN nq := ⟨_, rfl⟩
   have B95 : Below wr.heap.size wr w5 := by rw [hw5]; exact (qt_of _ _).bel
   rw [← hw5]
   have HW5 := hid hw5
   clear hw5
   have D5 := hid (Dr.out.on B95)
   have HB6 := hid (Bl.call HB5.out B95)
   have HBW := hid B95
   clear k0 k1 k2 B95
   have k0 := D5.out.cell 0
   have k1 := D5.out.cell 1
   have k2 := D5.out.cell 2
   go_wp2_with fail
   refine wp_region_held_drew (S := fun w' => w'.cell? ⟨K, 0, none⟩ = some (.int .i64 u) ∧ w'.cell? ⟨K, 1, none⟩ = some (.int .i64 v) ∧ w'.cell? ⟨K, 2, none⟩ = some (.int .i64 0)) (by kernel_rfl) ⟨k0, k1, k2⟩ (fun hHeld => ?_)
   refine wpAnyH_take (i := 0) (oi := _) (v := ?rv8) rfl (by kernel_rfl) (by kernel_rfl) (by kernel_rfl) (fun _ _ _ h => h) (Or.inl ⟨by rfl, ?ry8⟩) (by assumption) ?rr8
   case ry8 => (intro w hSw; (try dsimp only at hSw); go_simp; try (with_reducible rfl))
   (try simp only [Act.put, putL])
   refine wpAnyH_take (i := 1) (oi := _) (v := ?rv9) rfl (by kernel_rfl) (by kernel_rfl) (by kernel_rfl) (fun _ _ _ h => h) (Or.inl ⟨by rfl, ?ry9⟩) (by assumption) ?rr9
   case ry9 => (intro w hSw; (try dsimp only at hSw); go_simp; try (with_reducible rfl))
   (try simp only [Act.put, putL])
   refine wpAnyH_take (i := 2) (oi := _) (v := ?rv10) rfl (by kernel_rfl) (by kernel_rfl) (by kernel_rfl) (fun _ _ _ h => h) (Or.inl ⟨by rfl, ?ry10⟩) (by assumption) ?rr10
   case ry10 => (intro w hSw; refine exec_take (A := A) (n := i) (c := c) (kk := i) (x := .tmp 65) (k := .tmp 66) Tedg ?_ ?_ ?_ HIC.out _ <;> rfl)
   (try simp only [Act.put, putL])
   refine wpAnyH_take (i := 3) (oi := _) (v := ?rv11) rfl (by kernel_rfl) (by kernel_rfl) (by kernel_rfl) (fun _ _ _ h => h) (Or.inl ⟨by rfl, ?ry11⟩) (by assumption) ?rr11
   case ry11 => (intro w hSw; obtain ⟨g0, g1, g2⟩ := hSw; go_simp; try (with_reducible rfl))
   (try simp only [Act.put, putL])
   refine wpAnyH_take (i := 5) (oi := _) (v := ?rv12) rfl (by kernel_rfl) (by kernel_rfl) (by kernel_rfl) (fun _ _ _ h => h) (Or.inl ⟨by rfl, ?ry12⟩) (by assumption) ?rr12
   case ry12 => (intro w hSw; (try dsimp only at hSw); go_simp; try (with_reducible rfl))
   (try simp only [Act.put, putL])
   refine wpAnyH_take (i := 6) (oi := _) (v := ?rv13) rfl (by kernel_rfl) (by kernel_rfl) (by kernel_rfl) (fun _ _ _ h => h) (Or.inl ⟨by rfl, ?ry13⟩) (by assumption) ?rr13
   case ry13 => (intro w hSw; (try dsimp only at hSw); go_simp; try (with_reducible rfl))
   (try simp only [Act.put, putL])
   refine wpAnyH_take (i := 7) (oi := _) (v := ?rv14) rfl (by kernel_rfl) (by kernel_rfl) (by kernel_rfl) (fun _ _ _ h => h) (Or.inl ⟨by rfl, ?ry14⟩) (by assumption) ?rr14
   case ry14 => (intro w hSw; refine exec_drop (A := A) (n := i) (c := c) (kk := i) (zz := (i : Int)) (x := .tmp 70) (k := .tmp 71) Tedg ?_ ?_ ?_ rfl HIM.out _ <;> rfl)
   (try simp only [Act.put, putL])
   refine wpAnyH_ready (rs := [4]) (by kernel_rfl) (by simp) ?_
   refine AllReadyH.cons (o := _) rfl (fun K hK => ?_) ?_
   ·
    go_simp
    refine hK.out _ _ ?_ (fun hHeld => ?_)
    · (first | go_keep | (go_split_ands; and_intros <;> (first | (refine cell_later (by assumption) ?_; first | assumption | (rw [Qt.cell (qt_of _ _)]; assumption) | (rw [Qt.cell (qt_drew _)]; assumption)) | (refine cell_later (bel_new _ _) ?_; assumption))) | (refine cell_later (by assumption) ?_; first | assumption | (rw [Qt.cell (qt_of _ _)]; assumption) | (rw [Qt.cell (qt_drew _)]; assumption)) | (refine cell_later (bel_new _ _) ?_; assumption))
    clear hK K
    (try simp only [Act.put, putL])
    refine wpAnyH_ready (rs := [8]) (by kernel_rfl) (by simp) ?_
    refine AllReadyH.cons (o := _) rfl (fun K hK => ?_) ?_
    ·
     go_simp
     refine hK.out _ _ ?_ (fun hHeld => ?_)
     · (first | go_keep | (go_split_ands; and_intros <;> (first | (refine cell_later (by assumption) ?_; first | assumption | (rw [Qt.cell (qt_of _ _)]; assumption) | (rw [Qt.cell (qt_drew _)]; assumption)) | (refine cell_later (bel_new _ _) ?_; assumption))) | (refine cell_later (by assumption) ?_; first | assumption | (rw [Qt.cell (qt_of _ _)]; assumption) | (rw [Qt.cell (qt_drew _)]; assumption)) | (refine cell_later (bel_new _ _) ?_; assumption))
     clear hK K
     (try simp only [Act.put, putL])
     refine wpAnyH_ready (rs := [9]) (by kernel_rfl) (by simp) ?_
     refine AllReadyH.cons (o := _) rfl (fun K hK => ?_) ?_
     ·
      go_simp
      go_at_call 55
      have BA : Below w5.heap.size w5 (w5.alloc (.cells #[.int .i64 u, .int .i64 v, .int .i64 0] 35)) := Bl.new (Below.refl _ _) _
      have BW : Below wr.heap.size wr (w5.alloc (.cells #[.int .i64 u, .int .i64 v, .int .i64 0] 35)) := Bl.call HBW.out BA
      have S1 : Sl (w5.alloc (.cells #[.int .i64 u, .int .i64 v, .int .i64 0] 35)) (w5.alloc (.cells #[.int .i64 u, .int .i64 v, .int .i64 0] 35)).heap.size 3 (.slice (some ⟨w5.heap.size, 0, none⟩) 1 1) 1 (eds [(u, v, 0)]) := (Blk.new w5 35 [.int .i64 u, .int .i64 v, .int .i64 0]).sl (sz := 3) (by simp) (Nat.le_refl _) (by unfold maxLen; omega) rfl
      have hK3 : (w5.alloc (.cells #[.int .i64 u, .int .i64 v, .int .i64 0] 35)).heap.size = w5.heap.size + 1 := by simp
      have D3 : Blk ((w5.alloc (.cells #[.int .i64 u, .int .i64 v, .int .i64 0] 35)).alloc (.cells #[.slice (cutA A c 0 3) i c, .slice (some ⟨w5.heap.size, 0, none⟩) 1 1, .slice (cutA A c i 3) 0 (c - i)] 26)) (w5.heap.size + 1) 26 [.slice (cutA A c 0 3) i c, .slice (some ⟨w5.heap.size, 0, none⟩) 1 1, .slice (cutA A c i 3) 0 (c - i)] := by rw [← hK3]; exact Blk.new _ _ _
      have P3 : PartsAt ((w5.alloc (.cells #[.int .i64 u, .int .i64 v, .int .i64 0] 35)).alloc (.cells #[.slice (cutA A c 0 3) i c, .slice (some ⟨w5.heap.size, 0, none⟩) 1 1, .slice (cutA A c i 3) 0 (c - i)] 26)) [.slice (cutA A c 0 3) i c, .slice (some ⟨w5.heap.size, 0, none⟩) 1 1, .slice (cutA A c i 3) 0 (c - i)] [l.take i, [(u, v, 0)], l.drop i] := parts3 (Sl.new (U1.out _ BW) _) (Sl.new S1 _) (Sl.new (by have h := U2.out _ BW; rw [Nat.sub_self] at h; exact h) _)
      refine (concat_any (k := 3) (D3.on (qt_drew _).bel) rfl (PartsAt.call P3 (qt_drew _).bel) HE2.out (by decide) rfl).mono ?_
      rintro e w9 ⟨v9, rfl, s9, b9⟩
      refine hK.out _ _ ?_ (fun hHeld => ?_)
      · (first | go_keep | (go_split_ands; and_intros <;> (first | (refine cell_later (by assumption) ?_; first | assumption | (rw [Qt.cell (qt_of _ _)]; assumption) | (rw [Qt.cell (qt_drew _)]; assumption)) | (refine cell_later (bel_new _ _) ?_; assumption))) | (refine cell_later (by assumption) ?_; first | assumption | (rw [Qt.cell (qt_of _ _)]; assumption) | (rw [Qt.cell (qt_drew _)]; assumption)) | (refine cell_later (bel_new _ _) ?_; assumption))
      clear hK K
      (try simp only [Act.put, putL])
      refine wpAnyH_ready (rs := [10]) (by kernel_rfl) (by simp) ?_
      refine AllReadyH.cons (o := _) rfl (fun K hK => ?_) ?_
      ·
       go_simp
       refine hK.out _ _ ?_ (fun hHeld => ?_)
       · (first | go_keep | (go_split_ands; and_intros <;> (first | (refine cell_later (by assumption) ?_; first | assumption | (rw [Qt.cell (qt_of _ _)]; assumption) | (rw [Qt.cell (qt_drew _)]; assumption)) | (refine cell_later (bel_new _ _) ?_; assumption))) | (refine cell_later (by assumption) ?_; first | assumption | (rw [Qt.cell (qt_of _ _)]; assumption) | (rw [Qt.cell (qt_drew _)]; assumption)) | (refine cell_later (bel_new _ _) ?_; assumption))
       clear hK K
       (try simp only [Act.put, putL])
       refine wpAnyH_ready (rs := [11]) (by kernel_rfl) (by simp) ?_
       refine AllReadyH.cons (o := _) rfl (fun K hK => ?_) ?_
       ·
        go_simp
        refine hK.out _ _ ?_ (fun hHeld => ?_)
        · (first | go_keep | (go_split_ands; and_intros <;> (first | (refine cell_later (by assumption) ?_; first | assumption | (rw [Qt.cell (qt_of _ _)]; assumption) | (rw [Qt.cell (qt_drew _)]; assumption)) | (refine cell_later (bel_new _ _) ?_; assumption))) | (refine cell_later (by assumption) ?_; first | assumption | (rw [Qt.cell (qt_of _ _)]; assumption) | (rw [Qt.cell (qt_drew _)]; assumption)) | (refine cell_later (bel_new _ _) ?_; assumption))
        clear hK K
        (try simp only [Act.put, putL])
        refine wpAnyH_done (by kernel_rfl) ?_ _
        go_wp2
        go_ret2
        exact ⟨v9, rfl, by rw [← HEE.out]; exact own_more s9 (Bl.new (Bl.call HB6.out BA) _).size, Bl.call (Bl.qt (Bl.new (Bl.call HB6.out BA) _) (qt_drew _)) b9⟩
       exact AllReadyH.nil
      exact AllReadyH.nil
     exact AllReadyH.nil
    exact AllReadyH.nil
   exact AllReadyH.nil
set_option maxRecDepth 100000 in
set_option maxHeartbeats 16000000 in
theorem tadd_gt {n : Int} {v0 : Value} {m : Nat} {l : List (Int × Int × Int)} {u v : Int} {w : World} (hs : Sl w w.heap.size 3 v0 m (eds l)) (ht : TabR n l) (u1 : 0 ≤ u) (u2 : u < n) (v1 : 0 ≤ v) (v2 : v < n) (huv : v < u) (hf : Tp.fiP (Pt.uv l) u v = none) (hm : m ≤ 1000) :
  Calls Tryz.prog 34 #[.int .i64 n, v0, .int .i64 u, .int .i64 v] w (OwnTup (Tp.addF l u v) w) := by
 have hl : l.length = m := by have := hs.len; rw [len_eds] at this; omega
 have HNE : Hid (Tp.newE u v = (v, u, 0)) := hid (by unfold Tp.newE; rw [Int.min_eq_right (by omega), Int.max_eq_left (by omega)])
 obtain ⟨A, c, rfl, hnc, hcm, hll, hx⟩ := hs
 have HS : Hid (Sl w w.heap.size 3 (.slice A m c) m (eds l)) := hid ⟨A, c, rfl, hnc, hcm, hll, hx⟩
 have HT := hid ht
 have HF := hid hf
 have HL := hid hl
 have HX := hid hx
 have HC : Hid (m ≤ c) := hid hnc
 have hm63 : m ≤ 9223372036854775807 := by omega
 have e1 : (u == v) = false := by simp; omega
 have a6 : v ≤ u := by omega
 have a7 : ¬ u ≤ v := by omega
 have a9 : ¬ u < v := by omega
 clear ht hf hl hnc hcm hll hx
 go_enter Tryz.func34, Tryz.ntmps34
 go_wp2_with fail
 refine (tright_is HS.out true ⟨fun _ => rfl, fun _ => HT.out⟩).mono ?_; rintro e w2 ⟨rfl, b2⟩
 have HB2 := hid b2
 have HS2 := hid (HS.out.call b2)
 clear b2
 go_wp2_with fail
 refine (tvertex_yes u1 u2 _).mono ?_; rintro e w' ⟨rfl, rfl⟩
 go_wp2_with fail
 refine (tvertex_yes v1 v2 _).mono ?_; rintro e w' ⟨rfl, rfl⟩
 go_wp2_with fail
 refine (nfind_no HS2.out HF.out).mono ?_; rintro e w3 ⟨rfl, b3⟩
 have HB3 := hid (Bl.call HB2.out b3)
 have HS3 := hid (HS2.out.call b3)
 clear b3
 obtain ⟨w4, hw4⟩ : ∃ W, W = w3.alloc (.cells #[.int .i64 v, .int .i64 u, .int .i64 0] 35) := ⟨_, rfl⟩
 obtain ⟨K, hK⟩ : ∃ K, K = w3.heap.size := ⟨_, rfl⟩
 have D4 : Hid (Blk w4 K 35 [.int .i64 v, .int .i64 u, .int .i64 0]) := hid (by rw [hw4, hK]; exact Blk.new _ _ _)
 have HB4 : Hid (Below w.heap.size w w4) := hid (by rw [hw4]; exact Bl.new HB3.out _)
 have HS4 : Hid (Sl w4 w4.heap.size 3 (.slice A m c) m (eds l)) := hid (by rw [hw4]; exact HS3.out.new _)
 have HW4 := hid hw4
 have HK := hid hK
 clear hw4 hK HS3 HB3
 go_wp2_with fail
 rw [← HK.out, ← HW4.out]
 go_loopw [13] (fun iv wr => ∃ i : Nat, iv = .int .i64 (i : Int) ∧ i ≤ m ∧ Hid (∀ j, (h : j < l.length) → j < i → lessE l[j] (v, u, 0) = true) ∧ Hid (Below w4.heap.size w4 wr)) (fun iv _ => m - (intOf iv).toNat)
 case atStart => exact ⟨0, rfl, Nat.zero_le _, hid (fun j _ hj => absurd hj (Nat.not_lt_zero _)), hid (Below.refl _ _)⟩
 case round =>
  obtain ⟨i, rfl, hi, HP, HBr⟩ := hrel
  have Dr := hid (D4.out.below HBr.out D4.out.lt)
  have HSr := hid (HS4.out.call HBr.out)
  have HB5 := hid (Bl.call HB4.out HBr.out)
  have k0 := Dr.out.cell 0
  have k1 := Dr.out.cell 1
  have k2 := Dr.out.cell 2
  have HIM : Hid (i ≤ m) := hid hi
  have HIC : Hid (i ≤ c) := hid (Nat.le_trans hi HC.out)
  have hi63 : (i : Int) ≤ 1000 := by omega
  have U1 : Hid (∀ w9 : World, Below wr.heap.size wr w9 → Sl w9 w9.heap.size 3 (.slice (cutA A c 0 3) i c) i (eds (l.take i))) := hid (fun w9 b => by have h := HSr.out.take (k := i) hi; rw [eds_take] at h; exact h.call b)
  have U2 : Hid (∀ w9 : World, Below wr.heap.size wr w9 → Sl w9 w9.heap.size 3 (.slice (cutA A c i 3) (m - i) (c - i)) (m - i) (eds (l.drop i))) := hid (fun w9 b => by have h := HSr.out.drop (k := i) hi; rw [eds_drop] at h; exact h.call b)
  have HE2 : Hid (([l.take i, [(v, u, (0 : Int))], l.drop i] : List (List (Int × Int × Int))).flatten.length ≤ 100000) := hid (by have := HL.out; simp; omega)
  by_cases hlt : i < m
  case pos =>
   have j0 : (i : Int) < (m : Int) := by omega
   have hil : i < l.length := by rw [HL.out]; exact hlt
   obtain ⟨b6, o6, rfl, hb6, hc6⟩ := HX.out (by omega)
   obtain ⟨p0, p1, p2⟩ := eds_cell hc6 hil
   have q0 := (HB5.out.cell (p := ⟨b6, o6 + i * 3, none⟩) hb6).trans p0
   have q1 := (HB5.out.cell (p := ⟨b6, o6 + i * 3 + 1, none⟩) hb6).trans p1
   have q2 := (HB5.out.cell (p := ⟨b6, o6 + i * 3 + 2, none⟩) hb6).trans p2
   have HNX := hid (fun (hb : lessE l[i] (v, u, 0) = true) (j : Nat) (h : j < l.length) (hj : j < i + 1) => show lessE l[j] (v, u, 0) = true from by
    rcases Nat.lt_or_ge j i with h3 | h3
    · exact HP.out j h h3
    ·
     have : j = i := by omega
     subst this; exact hb)
   have HEN := hid (fun (hb : lessE l[i] (v, u, 0) = false) => show [l.take i, [(v, u, (0 : Int))], l.drop i].flatten = Tp.addF l u v from by
    obtain ⟨g1, g2⟩ := lsB_low2 l (v, u, 0) i (by omega) HP.out (fun _ => hb)
    unfold Tp.addF
    rw [HNE.out, g1, g2]; simp)
   obtain ⟨e, he⟩ : ∃ e, e = l[i] := ⟨_, rfl⟩
   rw [← he] at q0 q1 q2 HNX HEN
   obtain ⟨px, py, pt⟩ := e
   dsimp only at q0 q1 q2
   clear he p0 p1 p2 hc6 hil
   cases hls : lessE (px, py, pt) (v, u, 0) with
   | true =>
    have HN2 := hid (HNX.out hls)
    have HLS := hid hls
    clear hls HNX HEN
    go_wp2_with fail
    go_region_held3 (fun w' => w'.cell? ⟨b6, o6 + i * 3, none⟩ = some (.int .i64 px) ∧ w'.cell? ⟨b6, o6 + i * 3 + 1, none⟩ = some (.int .i64 py) ∧ w'.cell? ⟨b6, o6 + i * 3 + 2, none⟩ = some (.int .i64 pt) ∧ w'.cell? ⟨K, 0, none⟩ = some (.int .i64 v) ∧ w'.cell? ⟨K, 1, none⟩ = some (.int .i64 u) ∧ w'.cell? ⟨K, 2, none⟩ = some (.int .i64 0))
     (first | go_keep | (go_split_ands; and_intros <;> (first | (refine cell_later (by assumption) ?_; first | assumption | (rw [Qt.cell (qt_of _ _)]; assumption) | (rw [Qt.cell (qt_drew _)]; assumption)) | (refine cell_later (bel_new _ _) ?_; assumption))) | (refine cell_later (by assumption) ?_; first | assumption | (rw [Qt.cell (qt_of _ _)]; assumption) | (rw [Qt.cell (qt_drew _)]; assumption)) | (refine cell_later (bel_new _ _) ?_; assumption))
     ((go_at_call 57; (with_reducible refine (less_is true HLS.out _).mono ?_); rintro e w5 ⟨rfl, b5⟩))
    all_goals
     go_wp2_with fail
     go_roundw
     case rel => exact ⟨i + 1, by go_num, by omega, HN2, hid (by repeat (first | exact HBr.out | refine Bl.new ?_ _ | refine Bl.call ?_ (by assumption) | refine Bl.qt ?_ (by assumption) | refine Bl.qt ?_ (qt_drew _) | refine Bl.qt ?_ (qt_of _ _)))⟩
     case measure => simp [intOf]; omega
   | false =>
    have HEE := hid (HEN.out hls)
    have HLS := hid hls
    clear hls HNX HEN
    go_wp2_with fail
    go_region_held3 (fun w' => w'.cell? ⟨b6, o6 + i * 3, none⟩ = some (.int .i64 px) ∧ w'.cell? ⟨b6, o6 + i * 3 + 1, none⟩ = some (.int .i64 py) ∧ w'.cell? ⟨b6, o6 + i * 3 + 2, none⟩ = some (.int .i64 pt) ∧ w'.cell? ⟨K, 0, none⟩ = some (.int .i64 v) ∧ w'.cell? ⟨K, 1, none⟩ = some (.int .i64 u) ∧ w'.cell? ⟨K, 2, none⟩ = some (.int .i64 0))
     (first | go_keep | (go_split_ands; and_intros <;> (first | (refine cell_later (by assumption) ?_; first | assumption | (rw [Qt.cell (qt_of _ _)]; assumption) | (rw [Qt.cell (qt_drew _)]; assumption)) | (refine cell_later (bel_new _ _) ?_; assumption))) | (refine cell_later (by assumption) ?_; first | assumption | (rw [Qt.cell (qt_of _ _)]; assumption) | (rw [Qt.cell (qt_drew _)]; assumption)) | (refine cell_later (bel_new _ _) ?_; assumption))
     ((go_at_call 57; (with_reducible refine (less_is false HLS.out _).mono ?_); rintro e w5 ⟨rfl, b5⟩))
    all_goals
     have B95 : Below wr.heap.size wr w5 := Bl.call (Bl.qt (Below.refl _ _) (by first | exact qt_drew _ | exact qt_of _ _ | exact Qt.refl _)) b5
     have D5 := hid (Dr.out.on B95)
     have HB6 := hid (Bl.call HB5.out B95)
     have HBW := hid B95
     clear k0 k1 k2 q0 q1 q2 b5 B95
     have k0 := D5.out.cell 0
     have k1 := D5.out.cell 1
     have k2 := D5.out.cell 2
     go_wp2_with fail
     refine wp_region_held_drew (S := fun w' => w'.cell? ⟨K, 0, none⟩ = some (.int .i64 v) ∧ w'.cell? ⟨K, 1, none⟩ = some (.int .i64 u) ∧ w'.cell? ⟨K, 2, none⟩ = some (.int .i64 0)) (by kernel_rfl) ⟨k0, k1, k2⟩ (fun hHeld => ?_)
     refine wpAnyH_take (i := 0) (oi := _) (v := ?rv29) rfl (by kernel_rfl) (by kernel_rfl) (by kernel_rfl) (fun _ _ _ h => h) (Or.inl ⟨by rfl, ?ry29⟩) (by assumption) ?rr29
     case ry29 => (intro w hSw; (try dsimp only at hSw); go_simp; try (with_reducible rfl))
     (try simp only [Act.put, putL])
     refine wpAnyH_take (i := 1) (oi := _) (v := ?rv30) rfl (by kernel_rfl) (by kernel_rfl) (by kernel_rfl) (fun _ _ _ h => h) (Or.inl ⟨by rfl, ?ry30⟩) (by assumption) ?rr30
     case ry30 => (intro w hSw; (try dsimp only at hSw); go_simp; try (with_reducible rfl))
     (try simp only [Act.put, putL])
     refine wpAnyH_take (i := 2) (oi := _) (v := ?rv31) rfl (by kernel_rfl) (by kernel_rfl) (by kernel_rfl) (fun _ _ _ h => h) (Or.inl ⟨by rfl, ?ry31⟩) (by assumption) ?rr31
     case ry31 => (intro w hSw; refine exec_take (A := (some ⟨b6, o6, none⟩)) (n := m) (c := c) (kk := i) (x := .tmp 65) (k := .tmp 66) Tedg ?_ ?_ ?_ HIC.out _ <;> rfl)
     (try simp only [Act.put, putL])
     refine wpAnyH_take (i := 3) (oi := _) (v := ?rv32) rfl (by kernel_rfl) (by kernel_rfl) (by kernel_rfl) (fun _ _ _ h => h) (Or.inl ⟨by rfl, ?ry32⟩) (by assumption) ?rr32
     case ry32 => (intro w hSw; obtain ⟨g0, g1, g2⟩ := hSw; go_simp; try (with_reducible rfl))
     (try simp only [Act.put, putL])
     refine wpAnyH_take (i := 5) (oi := _) (v := ?rv33) rfl (by kernel_rfl) (by kernel_rfl) (by kernel_rfl) (fun _ _ _ h => h) (Or.inl ⟨by rfl, ?ry33⟩) (by assumption) ?rr33
     case ry33 => (intro w hSw; (try dsimp only at hSw); go_simp; try (with_reducible rfl))
     (try simp only [Act.put, putL])
     refine wpAnyH_take (i := 6) (oi := _) (v := ?rv34) rfl (by kernel_rfl) (by kernel_rfl) (by kernel_rfl) (fun _ _ _ h => h) (Or.inl ⟨by rfl, ?ry34⟩) (by assumption) ?rr34
     case ry34 => (intro w hSw; (try dsimp only at hSw); go_simp; try (with_reducible rfl))
     (try simp only [Act.put, putL])
     refine wpAnyH_take (i := 7) (oi := _) (v := ?rv35) rfl (by kernel_rfl) (by kernel_rfl) (by kernel_rfl) (fun _ _ _ h => h) (Or.inl ⟨by rfl, ?ry35⟩) (by assumption) ?rr35
     case ry35 => (intro w hSw; refine exec_drop (A := (some ⟨b6, o6, none⟩)) (n := m) (c := c) (kk := i) (zz := (i : Int)) (x := .tmp 70) (k := .tmp 71) Tedg ?_ ?_ ?_ rfl HIM.out _ <;> rfl)
     (try simp only [Act.put, putL])
     refine wpAnyH_ready (rs := [4]) (by kernel_rfl) (by simp) ?_
     refine AllReadyH.cons (o := _) rfl (fun K hK => ?_) ?_
     ·
      go_simp
      refine hK.out _ _ ?_ (fun hHeld => ?_)
      · (first | go_keep | (go_split_ands; and_intros <;> (first | (refine cell_later (by assumption) ?_; first | assumption | (rw [Qt.cell (qt_of _ _)]; assumption) | (rw [Qt.cell (qt_drew _)]; assumption)) | (refine cell_later (bel_new _ _) ?_; assumption))) | (refine cell_later (by assumption) ?_; first | assumption | (rw [Qt.cell (qt_of _ _)]; assumption) | (rw [Qt.cell (qt_drew _)]; assumption)) | (refine cell_later (bel_new _ _) ?_; assumption))
      clear hK K
      (try simp only [Act.put, putL])
      refine wpAnyH_ready (rs := [8]) (by kernel_rfl) (by simp) ?_
      refine AllReadyH.cons (o := _) rfl (fun K hK => ?_) ?_
      ·
       go_simp
       refine hK.out _ _ ?_ (fun hHeld => ?_)
       · (first | go_keep | (go_split_ands; and_intros <;> (first | (refine cell_later (by assumption) ?_; first | assumption | (rw [Qt.cell (qt_of _ _)]; assumption) | (rw [Qt.cell (qt_drew _)]; assumption)) | (refine cell_later (bel_new _ _) ?_; assumption))) | (refine cell_later (by assumption) ?_; first | assumption | (rw [Qt.cell (qt_of _ _)]; assumption) | (rw [Qt.cell (qt_drew _)]; assumption)) | (refine cell_later (bel_new _ _) ?_; assumption))
       clear hK K
       (try simp only [Act.put, putL])
       refine wpAnyH_ready (rs := [9]) (by kernel_rfl) (by simp) ?_
       refine AllReadyH.cons (o := _) rfl (fun K hK => ?_) ?_
       ·
        go_simp
        go_at_call 55
        have BA : Below w5.heap.size w5 (w5.drew.alloc (.cells #[.int .i64 v, .int .i64 u, .int .i64 0] 35)) := Bl.new (Bl.qt (Below.refl _ _) (qt_drew _)) _
        have BW : Below wr.heap.size wr (w5.drew.alloc (.cells #[.int .i64 v, .int .i64 u, .int .i64 0] 35)) := Bl.call HBW.out BA
        have S1 : Sl (w5.drew.alloc (.cells #[.int .i64 v, .int .i64 u, .int .i64 0] 35)) (w5.drew.alloc (.cells #[.int .i64 v, .int .i64 u, .int .i64 0] 35)).heap.size 3 (.slice (some ⟨w5.heap.size, 0, none⟩) 1 1) 1 (eds [(v, u, 0)]) := (Blk.new w5.drew 35 [.int .i64 v, .int .i64 u, .int .i64 0]).sl (sz := 3) (by simp) (Nat.le_refl _) (by unfold maxLen; omega) rfl
        have hK3 : (w5.drew.alloc (.cells #[.int .i64 v, .int .i64 u, .int .i64 0] 35)).heap.size = w5.heap.size + 1 := by simp
        have D3 : Blk ((w5.drew.alloc (.cells #[.int .i64 v, .int .i64 u, .int .i64 0] 35)).alloc (.cells #[.slice (cutA (some ⟨b6, o6, none⟩) c 0 3) i c, .slice (some ⟨w5.heap.size, 0, none⟩) 1 1, .slice (cutA (some ⟨b6, o6, none⟩) c i 3) (m - i) (c - i)] 26)) (w5.heap.size + 1) 26 [.slice (cutA (some ⟨b6, o6, none⟩) c 0 3) i c, .slice (some ⟨w5.heap.size, 0, none⟩) 1 1, .slice (cutA (some ⟨b6, o6, none⟩) c i 3) (m - i) (c - i)] := by rw [← hK3]; exact Blk.new _ _ _
        have P3 : PartsAt ((w5.drew.alloc (.cells #[.int .i64 v, .int .i64 u, .int .i64 0] 35)).alloc (.cells #[.slice (cutA (some ⟨b6, o6, none⟩) c 0 3) i c, .slice (some ⟨w5.heap.size, 0, none⟩) 1 1, .slice (cutA (some ⟨b6, o6, none⟩) c i 3) (m - i) (c - i)] 26)) [.slice (cutA (some ⟨b6, o6, none⟩) c 0 3) i c, .slice (some ⟨w5.heap.size, 0, none⟩) 1 1, .slice (cutA (some ⟨b6, o6, none⟩) c i 3) (m - i) (c - i)] [l.take i, [(v, u, 0)], l.drop i] := parts3 (Sl.new (U1.out _ BW) _) (Sl.new S1 _) (Sl.new (U2.out _ BW) _)
        refine (concat_any (k := 3) D3 rfl P3 HE2.out (by decide) rfl).mono ?_
        rintro e w9 ⟨v9, rfl, s9, b9⟩
        refine hK.out _ _ ?_ (fun hHeld => ?_)
        · (first | go_keep | (go_split_ands; and_intros <;> (first | (refine cell_later (by assumption) ?_; first | assumption | (rw [Qt.cell (qt_of _ _)]; assumption) | (rw [Qt.cell (qt_drew _)]; assumption)) | (refine cell_later (bel_new _ _) ?_; assumption))) | (refine cell_later (by assumption) ?_; first | assumption | (rw [Qt.cell (qt_of _ _)]; assumption) | (rw [Qt.cell (qt_drew _)]; assumption)) | (refine cell_later (bel_new _ _) ?_; assumption))
        clear hK K
        (try simp only [Act.put, putL])
        refine wpAnyH_ready (rs := [10]) (by kernel_rfl) (by simp) ?_
        refine AllReadyH.cons (o := _) rfl (fun K hK => ?_) ?_
        ·
         go_simp
         refine hK.out _ _ ?_ (fun hHeld => ?_)
         · (first | go_keep | (go_split_ands; and_intros <;> (first | (refine cell_later (by assumption) ?_; first | assumption | (rw [Qt.cell (qt_of _ _)]; assumption) | (rw [Qt.cell (qt_drew _)]; assumption)) | (refine cell_later (bel_new _ _) ?_; assumption))) | (refine cell_later (by assumption) ?_; first | assumption | (rw [Qt.cell (qt_of _ _)]; assumption) | (rw [Qt.cell (qt_drew _)]; assumption)) | (refine cell_later (bel_new _ _) ?_; assumption))
         clear hK K
         (try simp only [Act.put, putL])
         refine wpAnyH_ready (rs := [11]) (by kernel_rfl) (by simp) ?_
         refine AllReadyH.cons (o := _) rfl (fun K hK => ?_) ?_
         ·
          go_simp
          refine hK.out _ _ ?_ (fun hHeld => ?_)
          · (first | go_keep | (go_split_ands; and_intros <;> (first | (refine cell_later (by assumption) ?_; first | assumption | (rw [Qt.cell (qt_of _ _)]; assumption) | (rw [Qt.cell (qt_drew _)]; assumption)) | (refine cell_later (bel_new _ _) ?_; assumption))) | (refine cell_later (by assumption) ?_; first | assumption | (rw [Qt.cell (qt_of _ _)]; assumption) | (rw [Qt.cell (qt_drew _)]; assumption)) | (refine cell_later (bel_new _ _) ?_; assumption))
          clear hK K
          (try simp only [Act.put, putL])
          refine wpAnyH_done (by kernel_rfl) ?_ _
          go_wp2
          go_ret2
          exact ⟨v9, rfl, by rw [← HEE.out]; exact own_more s9 (Bl.new (Bl.call HB6.out BA) _).size, Bl.call (Bl.new (Bl.call HB6.out BA) _) b9⟩
         exact AllReadyH.nil
        exact AllReadyH.nil
       exact AllReadyH.nil
      exact AllReadyH.nil
     exact AllReadyH.nil
  case neg =>
   have j0 : ¬ (i : Int) < (m : Int) := by omega
   obtain rfl : i = m := by omega
   have HEE : Hid ([l.take i, [(v, u, (0 : Int))], l.drop i].flatten = Tp.addF l u v) := hid (by
    obtain ⟨g1, g2⟩ := lsB_low2 l (v, u, 0) i (by rw [HL.out]; exact Nat.le_refl _) HP.out (fun h => absurd h (by rw [HL.out]; omega))
    unfold Tp.addF
    rw [HNE.out, g1, g2]; simp)
   go_wp2_with fail
   go_quiet (fail)
   rename_i nq
   obtain ⟨w5, hw5⟩ : ∃ W, W = wr.drewN nq := ⟨_, rfl⟩
   have B95 : Below wr.heap.size wr w5 := by rw [hw5]; exact (qt_of _ _).bel
   rw [← hw5]
   have HW5 := hid hw5
   clear hw5
   have D5 := hid (Dr.out.on B95)
   have HB6 := hid (Bl.call HB5.out B95)
   have HBW := hid B95
   clear k0 k1 k2 B95
   have k0 := D5.out.cell 0
   have k1 := D5.out.cell 1
   have k2 := D5.out.cell 2
   go_wp2_with fail
   refine wp_region_held_drew (S := fun w' => w'.cell? ⟨K, 0, none⟩ = some (.int .i64 v) ∧ w'.cell? ⟨K, 1, none⟩ = some (.int .i64 u) ∧ w'.cell? ⟨K, 2, none⟩ = some (.int .i64 0)) (by kernel_rfl) ⟨k0, k1, k2⟩ (fun hHeld => ?_)
   refine wpAnyH_take (i := 0) (oi := _) (v := ?rv22) rfl (by kernel_rfl) (by kernel_rfl) (by kernel_rfl) (fun _ _ _ h => h) (Or.inl ⟨by rfl, ?ry22⟩) (by assumption) ?rr22
   case ry22 => (intro w hSw; (try dsimp only at hSw); go_simp; try (with_reducible rfl))
   (try simp only [Act.put, putL])
   refine wpAnyH_take (i := 1) (oi := _) (v := ?rv23) rfl (by kernel_rfl) (by kernel_rfl) (by kernel_rfl) (fun _ _ _ h => h) (Or.inl ⟨by rfl, ?ry23⟩) (by assumption) ?rr23
   case ry23 => (intro w hSw; (try dsimp only at hSw); go_simp; try (with_reducible rfl))
   (try simp only [Act.put, putL])
   refine wpAnyH_take (i := 2) (oi := _) (v := ?rv24) rfl (by kernel_rfl) (by kernel_rfl) (by kernel_rfl) (fun _ _ _ h => h) (Or.inl ⟨by rfl, ?ry24⟩) (by assumption) ?rr24
   case ry24 => (intro w hSw; refine exec_take (A := A) (n := i) (c := c) (kk := i) (x := .tmp 65) (k := .tmp 66) Tedg ?_ ?_ ?_ HIC.out _ <;> rfl)
   (try simp only [Act.put, putL])
   refine wpAnyH_take (i := 3) (oi := _) (v := ?rv25) rfl (by kernel_rfl) (by kernel_rfl) (by kernel_rfl) (fun _ _ _ h => h) (Or.inl ⟨by rfl, ?ry25⟩) (by assumption) ?rr25
   case ry25 => (intro w hSw; obtain ⟨g0, g1, g2⟩ := hSw; go_simp; try (with_reducible rfl))
   (try simp only [Act.put, putL])
   refine wpAnyH_take (i := 5) (oi := _) (v := ?rv26) rfl (by kernel_rfl) (by kernel_rfl) (by kernel_rfl) (fun _ _ _ h => h) (Or.inl ⟨by rfl, ?ry26⟩) (by assumption) ?rr26
   case ry26 => (intro w hSw; (try dsimp only at hSw); go_simp; try (with_reducible rfl))
   (try simp only [Act.put, putL])
   refine wpAnyH_take (i := 6) (oi := _) (v := ?rv27) rfl (by kernel_rfl) (by kernel_rfl) (by kernel_rfl) (fun _ _ _ h => h) (Or.inl ⟨by rfl, ?ry27⟩) (by assumption) ?rr27
   case ry27 => (intro w hSw; (try dsimp only at hSw); go_simp; try (with_reducible rfl))
   (try simp only [Act.put, putL])
   refine wpAnyH_take (i := 7) (oi := _) (v := ?rv28) rfl (by kernel_rfl) (by kernel_rfl) (by kernel_rfl) (fun _ _ _ h => h) (Or.inl ⟨by rfl, ?ry28⟩) (by assumption) ?rr28
   case ry28 => (intro w hSw; refine exec_drop (A := A) (n := i) (c := c) (kk := i) (zz := (i : Int)) (x := .tmp 70) (k := .tmp 71) Tedg ?_ ?_ ?_ rfl HIM.out _ <;> rfl)
   (try simp only [Act.put, putL])
   refine wpAnyH_ready (rs := [4]) (by kernel_rfl) (by simp) ?_
   refine AllReadyH.cons (o := _) rfl (fun K hK => ?_) ?_
   ·
    go_simp
    refine hK.out _ _ ?_ (fun hHeld => ?_)
    · (first | go_keep | (go_split_ands; and_intros <;> (first | (refine cell_later (by assumption) ?_; first | assumption | (rw [Qt.cell (qt_of _ _)]; assumption) | (rw [Qt.cell (qt_drew _)]; assumption)) | (refine cell_later (bel_new _ _) ?_; assumption))) | (refine cell_later (by assumption) ?_; first | assumption | (rw [Qt.cell (qt_of _ _)]; assumption) | (rw [Qt.cell (qt_drew _)]; assumption)) | (refine cell_later (bel_new _ _) ?_; assumption))
    clear hK K
    (try simp only [Act.put, putL])
    refine wpAnyH_ready (rs := [8]) (by kernel_rfl) (by simp) ?_
    refine AllReadyH.cons (o := _) rfl (fun K hK => ?_) ?_
    ·
     go_simp
     refine hK.out _ _ ?_ (fun hHeld => ?_)
     · (first | go_keep | (go_split_ands; and_intros <;> (first | (refine cell_later (by assumption) ?_; first | assumption | (rw [Qt.cell (qt_of _ _)]; assumption) | (rw [Qt.cell (qt_drew _)]; assumption)) | (refine cell_later (bel_new _ _) ?_; assumption))) | (refine cell_later (by assumption) ?_; first | assumption | (rw [Qt.cell (qt_of _ _)]; assumption) | (rw [Qt.cell (qt_drew _)]; assumption)) | (refine cell_later (bel_new _ _) ?_; assumption))
     clear hK K
     (try simp only [Act.put, putL])
     refine wpAnyH_ready (rs := [9]) (by kernel_rfl) (by simp) ?_
     refine AllReadyH.cons (o := _) rfl (fun K hK => ?_) ?_
     ·
      go_simp
      go_at_call 55
      have BA : Below w5.heap.size w5 (w5.alloc (.cells #[.int .i64 v, .int .i64 u, .int .i64 0] 35)) := Bl.new (Below.refl _ _) _
      have BW : Below wr.heap.size wr (w5.alloc (.cells #[.int .i64 v, .int .i64 u, .int .i64 0] 35)) := Bl.call HBW.out BA
      have S1 : Sl (w5.alloc (.cells #[.int .i64 v, .int .i64 u, .int .i64 0] 35)) (w5.alloc (.cells #[.int .i64 v, .int .i64 u, .int .i64 0] 35)).heap.size 3 (.slice (some ⟨w5.heap.size, 0, none⟩) 1 1) 1 (eds [(v, u, 0)]) := (Blk.new w5 35 [.int .i64 v, .int .i64 u, .int .i64 0]).sl (sz := 3) (by simp) (Nat.le_refl _) (by unfold maxLen; omega) rfl
      have hK3 : (w5.alloc (.cells #[.int .i64 v, .int .i64 u, .int .i64 0] 35)).heap.size = w5.heap.size + 1 := by simp
      have D3 : Blk ((w5.alloc (.cells #[.int .i64 v, .int .i64 u, .int .i64 0] 35)).alloc (.cells #[.slice (cutA A c 0 3) i c, .slice (some ⟨w5.heap.size, 0, none⟩) 1 1, .slice (cutA A c i 3) 0 (c - i)] 26)) (w5.heap.size + 1) 26 [.slice (cutA A c 0 3) i c, .slice (some ⟨w5.heap.size, 0, none⟩) 1 1, .slice (cutA A c i 3) 0 (c - i)] := by rw [← hK3]; exact Blk.new _ _ _
      have P3 : PartsAt ((w5.alloc (.cells #[.int .i64 v, .int .i64 u, .int .i64 0] 35)).alloc (.cells #[.slice (cutA A c 0 3) i c, .slice (some ⟨w5.heap.size, 0, none⟩) 1 1, .slice (cutA A c i 3) 0 (c - i)] 26)) [.slice (cutA A c 0 3) i c, .slice (some ⟨w5.heap.size, 0, none⟩) 1 1, .slice (cutA A c i 3) 0 (c - i)] [l.take i, [(v, u, 0)], l.drop i] := parts3 (Sl.new (U1.out _ BW) _) (Sl.new S1 _) (Sl.new (by have h := U2.out _ BW; rw [Nat.sub_self] at h; exact h) _)
      refine (concat_any (k := 3) (D3.on (qt_drew _).bel) rfl (PartsAt.call P3 (qt_drew _).bel) HE2.out (by decide) rfl).mono ?_
      rintro e w9 ⟨v9, rfl, s9, b9⟩
      refine hK.out _ _ ?_ (fun hHeld => ?_)
      · (first | go_keep | (go_split_ands; and_intros <;> (first | (refine cell_later (by assumption) ?_; first | assumption | (rw [Qt.cell (qt_of _ _)]; assumption) | (rw [Qt.cell (qt_drew _)]; assumption)) | (refine cell_later (bel_new _ _) ?_; assumption))) | (refine cell_later (by assumption) ?_; first | assumption | (rw [Qt.cell (qt_of _ _)]; assumption) | (rw [Qt.cell (qt_drew _)]; assumption)) | (refine cell_later (bel_new _ _) ?_; assumption))
      clear hK K
      (try simp only [Act.put, putL])
      refine wpAnyH_ready (rs := [10]) (by kernel_rfl) (by simp) ?_
      refine AllReadyH.cons (o := _) rfl (fun K hK => ?_) ?_
      ·
       go_simp
       refine hK.out _ _ ?_ (fun hHeld => ?_)
       · (first | go_keep | (go_split_ands; and_intros <;> (first | (refine cell_later (by assumption) ?_; first | assumption | (rw [Qt.cell (qt_of _ _)]; assumption) | (rw [Qt.cell (qt_drew _)]; assumption)) | (refine cell_later (bel_new _ _) ?_; assumption))) | (refine cell_later (by assumption) ?_; first | assumption | (rw [Qt.cell (qt_of _ _)]; assumption) | (rw [Qt.cell (qt_drew _)]; assumption)) | (refine cell_later (bel_new _ _) ?_; assumption))
       clear hK K
       (try simp only [Act.put, putL])
       refine wpAnyH_ready (rs := [11]) (by kernel_rfl) (by simp) ?_
       refine AllReadyH.cons (o := _) rfl (fun K hK => ?_) ?_
       ·
        go_simp
        refine hK.out _ _ ?_ (fun hHeld => ?_)
        · (first | go_keep | (go_split_ands; and_intros <;> (first | (refine cell_later (by assumption) ?_; first | assumption | (rw [Qt.cell (qt_of _ _)]; assumption) | (rw [Qt.cell (qt_drew _)]; assumption)) | (refine cell_later (bel_new _ _) ?_; assumption))) | (refine cell_later (by assumption) ?_; first | assumption | (rw [Qt.cell (qt_of _ _)]; assumption) | (rw [Qt.cell (qt_drew _)]; assumption)) | (refine cell_later (bel_new _ _) ?_; assumption))
        clear hK K
        (try simp only [Act.put, putL])
        refine wpAnyH_done (by kernel_rfl) ?_ _
        go_wp2
        go_ret2
        exact ⟨v9, rfl, by rw [← HEE.out]; exact own_more s9 (Bl.new (Bl.call HB6.out BA) _).size, Bl.call (Bl.qt (Bl.new (Bl.call HB6.out BA) _) (qt_drew _)) b9⟩
       exact AllReadyH.nil
      exact AllReadyH.nil
     exact AllReadyH.nil
    exact AllReadyH.nil
   exact AllReadyH.nil
def Off (K : Nat) (v : Value) : Prop := ∀ b o n c, v = .slice (some ⟨b, o, none⟩) n c → 0 < n → b ≠ K
theorem Sl.off {w : World} {sz n K i : Nat} {v u : Value} {xs : List Value} (h : Sl w w.heap.size sz v n xs) (ho : Off K v) : Sl (w.setCell ⟨K, i, none⟩ u) (w.setCell ⟨K, i, none⟩ u).heap.size sz v n xs := by
 obtain ⟨A, c, hv, hn, hc, hl, hx⟩ := h
 refine ⟨A, c, hv, hn, hc, hl, fun h0 => ?_⟩
 obtain ⟨b, o, hA, hb, hcell⟩ := hx h0
 have hne : b ≠ K := ho b o n c (by rw [hv, hA]) h0
 refine ⟨b, o, hA, by simpa [World.setCell] using hb, fun j y hy => ?_⟩
 rw [World.cell?_of_block (Below.heap_setCell _ ⟨K, i, none⟩ u b hne)]
 exact hcell j y hy
theorem Sl.isOff {w : World} {B sz n K : Nat} {v : Value} {xs : List Value} (h : Sl w B sz v n xs) (hK : B ≤ K) : Off K v := by
 intro b o n' c' hv h0
 obtain ⟨A, c, hv2, hn, hc, hl, hx⟩ := h
 rw [hv2] at hv
 injection hv with h1 h2 h3
 subst h2
 obtain ⟨b2, o2, hA, hb, _⟩ := hx h0
 rw [hA] at h1
 injection h1 with h1
 injection h1 with h1
 omega
theorem own_isOff {w : World} {base sz n K : Nat} {e : TypeId} {v : Value} {xs : List Value} (h : w.ownsRow base e sz v n xs) (hK : K < base) : Off K v := by
 intro b o n' c' hv h0
 rcases h.2 with ⟨h1, _⟩ | ⟨k, cap, cur, h1, hb, _⟩
 · rw [h1] at hv; injection hv with e1; cases e1
 · rw [h1] at hv; injection hv with e1; injection e1 with e1; injection e1 with e1; omega
theorem put5_sl {w : World} {sz k K : Nat} {v a b c d e : Value} {xs : List Value} (h : Sl w w.heap.size sz v k xs) (ho : Off K v) :
  Sl (((((w.setCell ⟨K, 0, none⟩ (a)).setCell ⟨K, 1, none⟩ (b)).setCell ⟨K, 2, none⟩ (c)).setCell ⟨K, 3, none⟩ (d)).setCell ⟨K, 4, none⟩ (e)) ((((((w.setCell ⟨K, 0, none⟩ (a)).setCell ⟨K, 1, none⟩ (b)).setCell ⟨K, 2, none⟩ (c)).setCell ⟨K, 3, none⟩ (d)).setCell ⟨K, 4, none⟩ (e))).heap.size sz v k xs := ((((h.off ho).off ho).off ho).off ho).off ho
theorem put5_bel {w w0 : World} {B K : Nat} {a b c d e : Value} (h : Below B w0 w) (hK : B ≤ K) : Below B w0 (((((w.setCell ⟨K, 0, none⟩ (a)).setCell ⟨K, 1, none⟩ (b)).setCell ⟨K, 2, none⟩ (c)).setCell ⟨K, 3, none⟩ (d)).setCell ⟨K, 4, none⟩ (e)) :=
 ((((h.setCell (p := ⟨K, 0, none⟩) hK _).setCell (p := ⟨K, 1, none⟩) hK _).setCell (p := ⟨K, 2, none⟩) hK _).setCell (p := ⟨K, 3, none⟩) hK _).setCell (p := ⟨K, 4, none⟩) hK _
theorem put5_blk {w : World} {K : Nat} {t : TypeId} {a b c d e a0 b0 c0 d0 e0 : Value} (h : Blk w K t [a0, b0, c0, d0, e0]) : Blk (((((w.setCell ⟨K, 0, none⟩ (a)).setCell ⟨K, 1, none⟩ (b)).setCell ⟨K, 2, none⟩ (c)).setCell ⟨K, 3, none⟩ (d)).setCell ⟨K, 4, none⟩ (e)) K t [a, b, c, d, e] := ((((h.put 0 a).put 1 b).put 2 c).put 3 d).put 4 e
theorem put5_far {w : World} {K K' : Nat} {t : TypeId} {a b c d e : Value} {cs : List Value} (h : Blk w K' t cs) (hne : K' ≠ K) : Blk (((((w.setCell ⟨K, 0, none⟩ (a)).setCell ⟨K, 1, none⟩ (b)).setCell ⟨K, 2, none⟩ (c)).setCell ⟨K, 3, none⟩ (d)).setCell ⟨K, 4, none⟩ (e)) K' t cs :=
 ((((h.far (p := ⟨K, 0, none⟩) hne _).far (p := ⟨K, 1, none⟩) hne _).far (p := ⟨K, 2, none⟩) hne _).far (p := ⟨K, 3, none⟩) hne _).far (p := ⟨K, 4, none⟩) hne _
section
variable {n L R : Nat} {hs : List (Nat × Nat)} {es : List (Int × Int × Int)} {vh ve : Value} {w : World}
set_option maxHeartbeats 4000000 in
set_option maxRecDepth 100000 in
theorem tfits_is (hm : GM w vh ve hs es) (hp : GP n L R hs es) {u v : Int} (b : Bool) (hb : (Pt.InR n u ∧ Pt.InR n v) ↔ b = true) :
  Calls Tryz.prog 28 #[grV n L R vh ve, .int .i64 u, .int .i64 v] w fun e w' => e = .returned (.bool b) ∧ Below w.heap.size w w' := by
 have HBB := hid hb
 clear hb
 obtain ⟨A1, c1, A2, c2, rfl, rfl⟩ := hm.lit
 unfold grV
 obtain ⟨KG, hKG⟩ : ∃ K, K = w.heap.size := ⟨_, rfl⟩
 obtain ⟨w1, hw1⟩ : ∃ W, W = w.alloc (.cells #[.int .i64 (n : Int), .int .i64 (L : Int), .int .i64 (R : Int), .slice A1 hs.length c1, .slice A2 es.length c2] 28) := ⟨_, rfl⟩
 have HB : Hid (Below w.heap.size w w1) := hid (by rw [hw1]; exact bel_new _ _)
 have DG : Hid (Blk w1 KG 28 [.int .i64 (n : Int), .int .i64 (L : Int), .int .i64 (R : Int), .slice A1 hs.length c1, .slice A2 es.length c2]) := hid (by rw [hw1, hKG]; exact Blk.new _ _ _)
 have GM1 : Hid (GM w1 (.slice A1 hs.length c1) (.slice A2 es.length c2) hs es) := hid (by rw [hw1]; exact hm.new _)
 have HP := hid hp
 have HW := hid hw1
 have HKG := hid hKG
 have hn12 : n ≤ 12 := hp.n2
 have hL4 : L ≤ 4 := hp.l2
 have hR3 : R ≤ 3 := hp.r2
 clear hm hp hw1 hKG
 have g0 := DG.out.cell 0
 have g1 := DG.out.cell 1
 have g2 := DG.out.cell 2
 have g3 := DG.out.cell 3
 have g4 := DG.out.cell 4
 have HF : Hid (∀ p : Prop, (Pt.InR n u ∧ Pt.InR n v → p) → ¬ p → b = false) := hid (fun p h hn => not_true HBB.out (fun q => hn (h q)))
 unfold Pt.InR at HF
 by_cases c1 : 0 ≤ u
 case neg =>
  have HR := hid (HF.out (0 ≤ u) (fun h => h.1.1) c1)
  go_enter Tryz.func28, Tryz.ntmps28
  go_wp2_with fail
  rw [← HW.out, ← HKG.out]
  refine (sright_gp GM1.out HP.out).mono ?_; rintro e w2 ⟨rfl, b2⟩
  have HB2 := hid (Bl.call HB.out b2)
  clear b2
  go_wp2
  go_ret
  exact ⟨by rw [HR.out]; first | rfl | exact ret_bool (by simp; omega), HB2.out⟩
 case pos =>
 by_cases c2 : u < (n : Int)
 case neg =>
  have HR := hid (HF.out (u < (n : Int)) (fun h => h.1.2) c2)
  go_enter Tryz.func28, Tryz.ntmps28
  go_wp2_with fail
  rw [← HW.out, ← HKG.out]
  refine (sright_gp GM1.out HP.out).mono ?_; rintro e w2 ⟨rfl, b2⟩
  have HB2 := hid (Bl.call HB.out b2)
  clear b2
  go_wp2
  go_ret
  exact ⟨by rw [HR.out]; first | rfl | exact ret_bool (by simp; omega), HB2.out⟩
 case pos =>
 by_cases c3 : 0 ≤ v
 case neg =>
  have HR := hid (HF.out (0 ≤ v) (fun h => h.2.1) c3)
  go_enter Tryz.func28, Tryz.ntmps28
  go_wp2_with fail
  rw [← HW.out, ← HKG.out]
  refine (sright_gp GM1.out HP.out).mono ?_; rintro e w2 ⟨rfl, b2⟩
  have HB2 := hid (Bl.call HB.out b2)
  clear b2
  go_wp2
  go_ret
  exact ⟨by rw [HR.out]; first | rfl | exact ret_bool (by simp; omega), HB2.out⟩
 case pos =>
 by_cases c4 : v < (n : Int)
 case neg =>
  have HR := hid (HF.out (v < (n : Int)) (fun h => h.2.2) c4)
  go_enter Tryz.func28, Tryz.ntmps28
  go_wp2_with fail
  rw [← HW.out, ← HKG.out]
  refine (sright_gp GM1.out HP.out).mono ?_; rintro e w2 ⟨rfl, b2⟩
  have HB2 := hid (Bl.call HB.out b2)
  clear b2
  go_wp2
  go_ret
  exact ⟨by rw [HR.out]; first | rfl | exact ret_bool (by simp; omega), HB2.out⟩
 case pos =>
 have HR : Hid (b = true) := hid (HBB.out.1 ⟨⟨c1, c2⟩, c3, c4⟩)
 go_enter Tryz.func28, Tryz.ntmps28
 go_wp2_with fail
 rw [← HW.out, ← HKG.out]
 refine (sright_gp GM1.out HP.out).mono ?_; rintro e w2 ⟨rfl, b2⟩
 have HB2 := hid (Bl.call HB.out b2)
 clear b2
 go_wp2
 go_ret
 exact ⟨by rw [HR.out]; first | rfl | exact ret_bool (by simp; omega), HB2.out⟩
def RaPost (n L R : Nat) (vh ve : Value) (es' : List (Int × Int × Int)) (w : World) (e : Ending) (w' : World) : Prop :=
 ∃ v', e = .returned (.agg #[.int .i64 (n : Int), .int .i64 (L : Int), .int .i64 (R : Int), vh, v']) ∧ Sl w' w'.heap.size 3 v' es'.length (eds es') ∧ (∀ K, K < w.heap.size → Off K ve → Off K v') ∧ Below w.heap.size w w'
def LenPost (k : Nat) (w : World) (e : Ending) (w' : World) : Prop := ∃ A c, e = .returned (.slice A k c) ∧ Below w.heap.size w w'
theorem tree_lenp {l : List Int} {k : Nat} (hk : l.length = k) {e : Ending} {w w' : World} (h : TreePost l w e w') : LenPost k w e w' := by
 subst hk
 obtain ⟨v, h1, ⟨A, c, hv, _⟩, h3⟩ := h
 subst hv
 exact ⟨A, c, h1, h3⟩
def raF (n : Nat) (L : Int) (es : List (Int × Int × Int)) (t : Nat) : Option (Int × Int × Int) → List (Int × Int × Int)
 | none => es
 | some e => Tp.setT (Tp.remF n L es e) e.1 e.2.1 ((t : Int) + 1)
theorem raised_eq (hp : GP n L R hs es) {t : Nat} (ht : t < L) (v : Int) : Tp.raisedF n L (Tp.Sof hs R (lvl n) L) es t v =
  if (Tp.treeL n es t v).length = (Tp.treeL n es ((t : Int) + 1) v).length then
   raF n L es t (found (Tp.hsOf hs R t) R (lvl n) (Tp.cutL es (Tp.treeL n es t v))) else es := by
 unfold Tp.raisedF found Tp.Sof
 rw [if_pos ht]
 split
 ·
  cases Tp.srP (Tp.hsOf hs R t) R (lvl n) (Pt.uv (Tp.cutL es (Tp.treeL n es t v))) with
  | none => rfl
  | some i =>
   simp only [Option.bind_some]
   cases (Tp.cutL es (Tp.treeL n es t v))[i]? <;> rfl
 · rfl
theorem found_in {hl : List (Nat × Nat)} {V : Nat} {c : List Int} {e : Int × Int × Int} (h : found hl R V (Tp.cutL es c) = some e) : e ∈ es := by
 unfold found at h
 cases hs : Tp.srP hl R V (Pt.uv (Tp.cutL es c)) with
 | none => rw [hs] at h; simp at h
 | some i => rw [hs] at h; simp at h; exact (Tp.mem_cut.1 (List.mem_of_getElem? h)).1
theorem set_facts (hp : GP n L R hs es) {d : Int × Int × Int} (hd : d ∈ es) {t : Int} (h0 : 0 ≤ t) (h1 : t ≤ 16) : TabR n (Tp.setT es d.1 d.2.1 t) ∧ Pt.uv (Tp.setT es d.1 d.2.1 t) = Pt.uv es ∧ (Tp.setT es d.1 d.2.1 t).length = es.length ∧ ∃ j, Tp.fiP (Pt.uv es) d.1 d.2.1 = some j := by
 obtain ⟨j, hj⟩ := List.mem_iff_getElem?.1 hd
 have e := hp.gd.tb.setT hj t
 refine ⟨?_, ?_, ?_, j, hp.gd.tb.fi hj⟩
 · rw [e]; exact tabr_of (hp.gd.tb.set hj ⟨h0, h1⟩) (by have := hp.n2; omega)
 · rw [e]; exact Tp.uv_set hj t
 · rw [e, List.length_set]
theorem rem_some (hp : GP n L R hs es) {e : Int × Int × Int} (he : e ∈ es) (h0 : e.2.2 = 0) {p : List Nat} (hsm : Pt.Sm (Pt.uv (frs L es)) e.1 p e.2.1) :
  ∃ a l, Pt.edsAt (frs L es) p = a :: l ∧ l.foldl Tp.gre1 a ∈ es ∧ Tp.remF n L es e = Tp.setT es (l.foldl Tp.gre1 a).1 (l.foldl Tp.gre1 a).2.1 0 := by
 have hf := hp.gd.fs
 have htb := hp.gd.tb.fr L
 have hsw := Tp.seps_way htb hf hsm
 have hgr : Tp.gre (Tp.seps n (Tp.fr L es) e.1 e.2.1) = Tp.gre (Pt.edsAt (frs L es) p) := Tp.gre_ext hsw
 obtain ⟨i1, i2⟩ := hp.gd.in1 he
 have hne : e.1 ≠ e.2.1 := by have := (hp.gd.tb.1 e he).2.1; omega
 have hnn := Tp.seps_some htb hf i1 i2 (hsm.1.cn hf.1) hne
 cases hq : Pt.edsAt (frs L es) p with
 | nil => rw [hq] at hgr; exact absurd (Tp.gre_none.1 hgr) hnn
 | cons a l =>
  rw [hq] at hgr
  have hsome : Tp.gre (Tp.seps n (Tp.fr L es) e.1 e.2.1) = some (l.foldl Tp.gre1 a) := hgr
  have hm := (Tp.gre_spec hsome).1
  refine ⟨a, l, rfl, (Tp.mem_fr.1 (Tp.mem_seps.1 hm).2.1).1, ?_⟩
  unfold Tp.remF
  rw [if_pos h0, hsome]
theorem rem_no (e : Int × Int × Int) (h : e.2.2 ≠ 0 ∨ ¬ Pt.Cn n (Pt.uv (frs L es)) e.1 e.2.1) : Tp.remF n L es e = es := by
 unfold Tp.remF
 by_cases h0 : e.2.2 = 0
 ·
  rw [if_pos h0]
  have hc := h.resolve_left (fun q => q h0)
  have : Tp.seps n (Tp.fr L es) e.1 e.2.1 = [] := by unfold Tp.seps; rw [if_neg]; exact hc
  rw [this]; rfl
 · rw [if_neg h0]
set_option maxHeartbeats 32000000 in
set_option maxRecDepth 100000 in
theorem raised_ok (hm : GM w vh ve hs es) (hp : GP n L R hs es) {t : Nat} {v : Int} (ht : t < L) (a3 : 0 ≤ v) (a4 : v < (n : Int)) :
    Calls Tryz.prog 56 #[grV n L R vh ve, .int .i64 (t : Int), .int .i64 v] w (RaPost n L R vh ve (Tp.raisedF n L (Tp.Sof hs R (lvl n) L) es t v) w) := by
  have hS0 := hm.se
  obtain ⟨A1, c1, A2, c2, rfl, rfl⟩ := hm.lit
  unfold grV
  obtain ⟨KG, hKG⟩ : ∃ K, K = w.heap.size := ⟨_, rfl⟩
  obtain ⟨w1, hw1⟩ : ∃ W, W = w.alloc (.cells #[.int .i64 (n : Int), .int .i64 (L : Int), .int .i64 (R : Int), .slice A1 hs.length c1, .slice A2 es.length c2] 28) := ⟨_, rfl⟩
  have HB : Hid (Below w.heap.size w w1) := hid (by rw [hw1]; exact bel_new _ _)
  have DG : Hid (Blk w1 KG 28 [.int .i64 (n : Int), .int .i64 (L : Int), .int .i64 (R : Int), .slice A1 hs.length c1, .slice A2 es.length c2]) := hid (by rw [hw1, hKG]; exact Blk.new _ _ _)
  have GM1 : Hid (GM w1 (.slice A1 hs.length c1) (.slice A2 es.length c2) hs es) := hid (by rw [hw1]; exact hm.new _)
  have HP := hid hp
  have HW := hid hw1
  have HKG := hid hKG
  have hn12 : n ≤ 12 := hp.n2
  have hL4 : L ≤ 4 := hp.l2
  have hR3 : R ≤ 3 := hp.r2
  clear hm hp hw1 hKG
  have S0 := hid hS0
  clear hS0
  obtain ⟨es', hes⟩ : ∃ es', es' = Tp.raisedF n L (Tp.Sof hs R (lvl n) L) es t v := ⟨_, rfl⟩
  have hes2 := hes
  rw [raised_eq HP.out ht] at hes2
  rw [← hes]
  obtain ⟨la, hla⟩ : ∃ la, (Tp.treeL n es t v).length = la := ⟨_, rfl⟩
  obtain ⟨lb, hlb⟩ : ∃ lb, (Tp.treeL n es ((t : Int) + 1) v).length = lb := ⟨_, rfl⟩
  rw [hla, hlb] at hes2
  obtain ⟨r, hr⟩ : ∃ r, r = found (Tp.hsOf hs R t) R (lvl n) (Tp.cutL es (Tp.treeL n es t v)) := ⟨_, rfl⟩
  rw [← hr] at hes2
  have HES := hid hes2
  have HTA : Hid (∀ {w : World}, GM w (.slice A1 hs.length c1) (.slice A2 es.length c2) hs es → Calls Tryz.prog 7 #[grV n L R (.slice A1 hs.length c1) (.slice A2 es.length c2), .int .i64 (t : Int), .int .i64 v] w (LenPost la w)) := hid (fun hm => (sTree_ok hm HP.out (by omega) (by omega) a3 a4).mono fun _ _ h => tree_lenp hla h)
  have HTB : Hid (∀ {w : World}, GM w (.slice A1 hs.length c1) (.slice A2 es.length c2) hs es → Calls Tryz.prog 7 #[grV n L R (.slice A1 hs.length c1) (.slice A2 es.length c2), .int .i64 (IntKind.i64.wrap ((t : Int) + 1)), .int .i64 v] w (LenPost lb w)) := hid (fun hm => by rw [show IntKind.i64.wrap ((t : Int) + 1) = (t : Int) + 1 by rw [IntKind.wrap_i64]; omega]; exact (sTree_ok hm HP.out (by omega) (by omega) a3 a4).mono fun _ _ h => tree_lenp hlb h)
  have HSE : Hid (∀ {w : World}, GM w (.slice A1 hs.length c1) (.slice A2 es.length c2) hs es → Calls Tryz.prog 8 #[grV n L R (.slice A1 hs.length c1) (.slice A2 es.length c2), .int .i64 (t : Int), .int .i64 v] w (SePost r w)) := hid (fun hm => by rw [hr]; exact sSearch_ok hm HP.out ht a3 a4)
  have HIN : Hid (∀ e, r = some e → e ∈ es) := hid (fun e he => found_in (hr.symm.trans he))
  have hL16 : (t : Int) + 1 ≤ 16 := by omega
  have ht0 : (0 : Int) ≤ (t : Int) + 1 := by omega
  clear hes hes2 hr
  obtain ⟨w2, hw2⟩ : ∃ W, W = w1.alloc (.cells #[.int .i64 0, .int .i64 0, .int .i64 0, .slice none 0 0, .slice none 0 0] 28) := ⟨_, rfl⟩
  obtain ⟨K6, hK6⟩ : ∃ K, K = KG + 1 := ⟨_, rfl⟩
  have hsz1 : w1.heap.size = KG + 1 := by rw [HW.out, HKG.out]; simp
  have b12 : Below w1.heap.size w1 w2 := by rw [hw2]; exact bel_new _ _
  replace HB := hid (Bl.call HB.out b12)
  replace DG := hid (DG.out.below b12 DG.out.lt)
  replace GM1 := hid (GM1.out.call b12)
  have D6 : Hid (Blk w2 K6 28 [.int .i64 0, .int .i64 0, .int .i64 0, .slice none 0 0, .slice none 0 0]) := hid (by rw [hw2, hK6, ← hsz1]; exact Blk.new _ _ _)
  have LOG : Hid (w.heap.size ≤ KG) := hid (by rw [HKG.out]; exact Nat.le_refl _)
  have LO6 : Hid (w.heap.size ≤ K6) := hid (by rw [hK6, HKG.out]; omega)
  have NE6 : Hid (K6 ≠ KG) := hid (by omega)
  have HW2 := hid hw2
  have HK6 := hid hK6
  clear b12 hw2 hK6 hsz1
  have OFF6 : Hid (Off K6 (.slice A2 es.length c2)) := hid (S0.out.isOff LO6.out)
  have g0 := DG.out.cell 0
  have g1 := DG.out.cell 1
  have g2 := DG.out.cell 2
  have g3 := DG.out.cell 3
  have g4 := DG.out.cell 4
  by_cases hll : la = lb
  case neg =>
    have hne : ((la : Int) != (lb : Int)) = true := by simp; omega
    have HEE : Hid (es' = es) := hid (by rw [HES.out, if_neg hll])
    clear hll
    go_enter Tryz.func56, Tryz.ntmps56
    go_upto_region 1 with (fail)
    rw [← HW.out, ← HKG.out, ← HK6.out, ← HW2.out]
    go_region_held3 (fun w' => w'.cell? ⟨KG, 0, none⟩ = some (.int .i64 (n : Int)) ∧ w'.cell? ⟨KG, 1, none⟩ = some (.int .i64 (L : Int)) ∧ w'.cell? ⟨KG, 2, none⟩ = some (.int .i64 (R : Int)) ∧ w'.cell? ⟨KG, 3, none⟩ = some (.slice A1 hs.length c1) ∧ w'.cell? ⟨KG, 4, none⟩ = some (.slice A2 es.length c2))
      (first | go_keep | (go_split_ands; and_intros <;> (first | (refine cell_later (by assumption) ?_; first | assumption | (rw [Qt.cell (qt_of _ _)]; assumption) | (rw [Qt.cell (qt_drew _)]; assumption)) | (refine cell_later (bel_new _ _) ?_; assumption) | (rw [Qt.cell (by assumption)]; first | assumption | (rw [Qt.cell (qt_of _ _)]; assumption) | (rw [Qt.cell (qt_drew _)]; assumption)))))
      (first | (go_at_call 7; (with_reducible refine (HTA.out (by repeat (first | exact GM1.out | refine GM.new ?_ _ | refine GM.cqt ?_ (qt_drew _) | refine GM.cqt ?_ (qt_of _ _) | refine GM.call ?_ (by assumption) | refine GM.cqt ?_ (by assumption)))).mono ?_); rintro e wz ⟨Az, cz, rfl, bz⟩)
             | (go_at_call 7; (with_reducible refine (HTB.out (by repeat (first | exact GM1.out | refine GM.new ?_ _ | refine GM.cqt ?_ (qt_drew _) | refine GM.cqt ?_ (qt_of _ _) | refine GM.call ?_ (by assumption) | refine GM.cqt ?_ (by assumption)))).mono ?_); rintro e wz ⟨Az, cz, rfl, bz⟩))
    all_goals
      have HBA : Below w2.heap.size w2 wz := Bl.call (Bl.call (Bl.qt (Below.refl _ _) (qt_drew _)) (by assumption)) (by assumption)
      replace DG := hid (DG.out.on HBA)
      replace D6 := hid (D6.out.on HBA)
      replace GM1 := hid (GM1.out.call HBA)
      replace HB := hid (Bl.call HB.out HBA)
      have SE := hid GM1.out.se
      clear HBA g0 g1 g2 g3 g4
      have g0 := DG.out.cell 0
      have g1 := DG.out.cell 1
      have g2 := DG.out.cell 2
      have g3 := DG.out.cell 3
      have g4 := DG.out.cell 4
      have f0 := D6.out.frozen 0
      have f1 := D6.out.frozen 1
      have f2 := D6.out.frozen 2
      have f3 := D6.out.frozen 3
      have f4 := D6.out.frozen 4
      have p0 := D6.out.cell 0
      have p1 := D6.out.cell 1
      have p2 := D6.out.cell 2
      have p3 := D6.out.cell 3
      have p4 := D6.out.cell 4
      obtain ⟨w99, hw⟩ : ∃ z, z = (((((wz.setCell ⟨K6, 0, none⟩ (.int .i64 (n : Int))).setCell ⟨K6, 1, none⟩ (.int .i64 (L : Int))).setCell ⟨K6, 2, none⟩ (.int .i64 (R : Int))).setCell ⟨K6, 3, none⟩ (.slice A1 hs.length c1)).setCell ⟨K6, 4, none⟩ (.slice A2 es.length c2)) := ⟨_, rfl⟩
      have D8 : Hid (Blk w99 K6 28 [.int .i64 (n : Int), .int .i64 (L : Int), .int .i64 (R : Int), .slice A1 hs.length c1, .slice A2 es.length c2]) := hid (by rw [hw]; exact put5_blk D6.out)
      have HB8 : Hid (Below w.heap.size w w99) := hid (by rw [hw]; exact put5_bel HB.out LO6.out)
      have SE8 := hid (put5_sl (a := .int .i64 (n : Int)) (b := .int .i64 (L : Int)) (c := .int .i64 (R : Int)) (d := .slice A1 hs.length c1) (e := .slice A2 es.length c2) SE.out OFF6.out)
      rw [← hw] at SE8
      have HW8 := hid hw
      clear hw
      go_wp2
      rw [← HW8.out]
      clear g0 g1 g2 g3 g4
      clear f0 f1 f2 f3 f4
      clear p0 p1 p2 p3 p4
      have e0 := D8.out.cell 0
      have e1 := D8.out.cell 1
      have e2 := D8.out.cell 2
      have e3 := D8.out.cell 3
      have e4 := D8.out.cell 4
      exact bodyPost_ret (v := .agg #[.int .i64 (n : Int), .int .i64 (L : Int), .int .i64 (R : Int), .slice A1 hs.length c1, .slice A2 es.length c2]) (by simp [results, Tryz.results56, go_sem, e0, e1, e2, e3, e4]) rfl ⟨_, rfl, by rw [HEE.out]; exact SE8.out, fun _ _ h => h, HB8.out⟩
  case pos =>
    subst hll
    have hne : ((la : Int) != (la : Int)) = false := by simp
    have HEE : Hid (es' = raF n L es t r) := hid (by rw [HES.out, if_pos rfl])
    go_enter Tryz.func56, Tryz.ntmps56
    go_upto_region 1 with (fail)
    rw [← HW.out, ← HKG.out, ← HK6.out, ← HW2.out]
    go_region_held3 (fun w' => w'.cell? ⟨KG, 0, none⟩ = some (.int .i64 (n : Int)) ∧ w'.cell? ⟨KG, 1, none⟩ = some (.int .i64 (L : Int)) ∧ w'.cell? ⟨KG, 2, none⟩ = some (.int .i64 (R : Int)) ∧ w'.cell? ⟨KG, 3, none⟩ = some (.slice A1 hs.length c1) ∧ w'.cell? ⟨KG, 4, none⟩ = some (.slice A2 es.length c2))
      (first | go_keep | (go_split_ands; and_intros <;> (first | (refine cell_later (by assumption) ?_; first | assumption | (rw [Qt.cell (qt_of _ _)]; assumption) | (rw [Qt.cell (qt_drew _)]; assumption)) | (refine cell_later (bel_new _ _) ?_; assumption) | (rw [Qt.cell (by assumption)]; first | assumption | (rw [Qt.cell (qt_of _ _)]; assumption) | (rw [Qt.cell (qt_drew _)]; assumption)))))
      (first | (go_at_call 7; (with_reducible refine (HTA.out (by repeat (first | exact GM1.out | refine GM.new ?_ _ | refine GM.cqt ?_ (qt_drew _) | refine GM.cqt ?_ (qt_of _ _) | refine GM.call ?_ (by assumption) | refine GM.cqt ?_ (by assumption)))).mono ?_); rintro e wz ⟨Az, cz, rfl, bz⟩)
             | (go_at_call 7; (with_reducible refine (HTB.out (by repeat (first | exact GM1.out | refine GM.new ?_ _ | refine GM.cqt ?_ (qt_drew _) | refine GM.cqt ?_ (qt_of _ _) | refine GM.call ?_ (by assumption) | refine GM.cqt ?_ (by assumption)))).mono ?_); rintro e wz ⟨Az, cz, rfl, bz⟩))
    all_goals
      have HBA : Below w2.heap.size w2 wz := Bl.call (Bl.call (Bl.qt (Below.refl _ _) (qt_drew _)) (by assumption)) (by assumption)
      replace DG := hid (DG.out.on HBA)
      replace D6 := hid (D6.out.on HBA)
      replace GM1 := hid (GM1.out.call HBA)
      replace HB := hid (Bl.call HB.out HBA)
      clear HBA g0 g1 g2 g3 g4
      have g0 := DG.out.cell 0
      have g1 := DG.out.cell 1
      have g2 := DG.out.cell 2
      have g3 := DG.out.cell 3
      have g4 := DG.out.cell 4
      go_wp2_with fail
      refine (HSE.out GM1.out).mono ?_; rintro e w4 ⟨rfl, b4⟩
      clear g0 g1 g2 g3 g4
      replace DG := hid (DG.out.on b4)
      replace D6 := hid (D6.out.on b4)
      replace GM1 := hid (GM1.out.call b4)
      replace HB := hid (Bl.call HB.out b4)
      clear b4
      cases r with
      | none =>
        have bz7 := bel_new w4 (.cells #[.int .i64 0, .int .i64 0, .int .i64 0] 35)
        obtain ⟨w5, hw5⟩ : ∃ W, W = w4.alloc (.cells #[.int .i64 0, .int .i64 0, .int .i64 0] 35) := ⟨_, rfl⟩
        rw [← hw5] at bz7
        replace DG := hid (DG.out.on bz7)
        replace D6 := hid (D6.out.on bz7)
        replace GM1 := hid (GM1.out.call bz7)
        replace HB := hid (Bl.call HB.out bz7)
        have SE := hid GM1.out.se
        have HW5 := hid hw5
        clear bz7 hw5
        have g0 := DG.out.cell 0
        have g1 := DG.out.cell 1
        have g2 := DG.out.cell 2
        have g3 := DG.out.cell 3
        have g4 := DG.out.cell 4
        have HEN : Hid (es' = es) := hid HEE.out
        unfold seV
        go_upto_region 5 with (fail)
        rw [← HW5.out]
        clear g0 g1 g2 g3 g4
        have g0 := DG.out.cell 0
        have g1 := DG.out.cell 1
        have g2 := DG.out.cell 2
        have g3 := DG.out.cell 3
        have g4 := DG.out.cell 4
        have f0 := D6.out.frozen 0
        have f1 := D6.out.frozen 1
        have f2 := D6.out.frozen 2
        have f3 := D6.out.frozen 3
        have f4 := D6.out.frozen 4
        have p0 := D6.out.cell 0
        have p1 := D6.out.cell 1
        have p2 := D6.out.cell 2
        have p3 := D6.out.cell 3
        have p4 := D6.out.cell 4
        obtain ⟨w99, hw⟩ : ∃ z, z = (((((w5.setCell ⟨K6, 0, none⟩ (.int .i64 (n : Int))).setCell ⟨K6, 1, none⟩ (.int .i64 (L : Int))).setCell ⟨K6, 2, none⟩ (.int .i64 (R : Int))).setCell ⟨K6, 3, none⟩ (.slice A1 hs.length c1)).setCell ⟨K6, 4, none⟩ (.slice A2 es.length c2)) := ⟨_, rfl⟩
        have D8 : Hid (Blk w99 K6 28 [.int .i64 (n : Int), .int .i64 (L : Int), .int .i64 (R : Int), .slice A1 hs.length c1, .slice A2 es.length c2]) := hid (by rw [hw]; exact put5_blk D6.out)
        have HB8 : Hid (Below w.heap.size w w99) := hid (by rw [hw]; exact put5_bel HB.out LO6.out)
        have SE8 := hid (put5_sl (a := .int .i64 (n : Int)) (b := .int .i64 (L : Int)) (c := .int .i64 (R : Int)) (d := .slice A1 hs.length c1) (e := .slice A2 es.length c2) SE.out OFF6.out)
        rw [← hw] at SE8
        have HW8 := hid hw
        clear hw
        go_wp2
        rw [← HW8.out]
        clear g0 g1 g2 g3 g4
        clear f0 f1 f2 f3 f4
        clear p0 p1 p2 p3 p4
        have e0 := D8.out.cell 0
        have e1 := D8.out.cell 1
        have e2 := D8.out.cell 2
        have e3 := D8.out.cell 3
        have e4 := D8.out.cell 4
        exact bodyPost_ret (v := .agg #[.int .i64 (n : Int), .int .i64 (L : Int), .int .i64 (R : Int), .slice A1 hs.length c1, .slice A2 es.length c2]) (by simp [results, Tryz.results56, go_sem, e0, e1, e2, e3, e4]) rfl ⟨_, rfl, by rw [HEN.out]; exact SE8.out, fun _ _ h => h, HB8.out⟩
      | some ed =>
        obtain ⟨x, y, tt⟩ := ed
        have hin := HIN.out _ rfl
        obtain ⟨io, hio⟩ := List.mem_iff_getElem?.1 hin
        have hgi := HP.out.gd.in1 hin
        have hok := HP.out.gd.tb.1 _ hin
        unfold Tp.EOk at hok
        unfold Pt.InR at hgi
        dsimp only at hok hgi
        have x1 : 0 ≤ x := by omega
        have x2 : x < (n : Int) := by omega
        have y1 : 0 ≤ y := by omega
        have y2 : y < (n : Int) := by omega
        have hxy : x ≠ y := by omega
        have htt : 0 ≤ tt := by omega
        have HEN : Hid (es' = Tp.setT (Tp.remF n L es (x, y, tt)) x y ((t : Int) + 1)) := hid HEE.out
        have HFI := hid (HP.out.gd.tb.fi hio)
        have HIO := hid hio
        dsimp only at HFI
        clear hin hio hgi hok
        have bz7 := bel_new w4 (.cells #[.int .i64 x, .int .i64 y, .int .i64 tt] 35)
        obtain ⟨w5, hw5⟩ : ∃ W, W = w4.alloc (.cells #[.int .i64 x, .int .i64 y, .int .i64 tt] 35) := ⟨_, rfl⟩
        obtain ⟨K7, hK7⟩ : ∃ K, K = w4.heap.size := ⟨_, rfl⟩
        have D7 : Hid (Blk w5 K7 35 [.int .i64 x, .int .i64 y, .int .i64 tt]) := hid (by rw [hw5, hK7]; exact Blk.new _ _ _)
        have NE7 : Hid (KG ≠ K7) := hid (by have := DG.out.lt; omega)
        have NE76 : Hid (K6 ≠ K7) := hid (by have := D6.out.lt; omega)
        rw [← hw5] at bz7
        replace DG := hid (DG.out.on bz7)
        replace D6 := hid (D6.out.on bz7)
        replace GM1 := hid (GM1.out.call bz7)
        replace HB := hid (Bl.call HB.out bz7)
        have HW5 := hid hw5
        have HK7 := hid hK7
        clear bz7 hw5 hK7
        have g0 := DG.out.cell 0
        have g1 := DG.out.cell 1
        have g2 := DG.out.cell 2
        have g3 := DG.out.cell 3
        have g4 := DG.out.cell 4
        unfold seV
        go_upto_region 6 with (fail)
        rw [← HW5.out, ← HK7.out]
        by_cases ht0e : tt = 0
        case neg =>
          have hne0 : (tt == 0) = false := by simp [ht0e]
          have HEQ : Hid (es' = Tp.setT es x y ((t : Int) + 1)) := hid (by rw [HEN.out, rem_no _ (.inl ht0e)])
          have TAB := hid HP.out.tab
          have LEN : Hid (es.length ≤ 1000000) := hid (Nat.le_trans HP.out.el (by decide))
          have SLE := hid GM1.out.se
          have k0 := D7.out.cell 0
          have k1 := D7.out.cell 1
          have k2 := D7.out.cell 2
          go_wp2_with fail
          refine (tset_ok (n := (n : Int)) (l := es) (u := x) (v := y) (t := (t : Int) + 1) SLE.out TAB.out x1 x2 y1 y2 ht0 hL16 HFI.out LEN.out).mono ?_; rintro e w20 ⟨v20, rfl, o20, b20⟩
          clear g0 g1 g2 g3 g4
          clear k0 k1 k2
          obtain ⟨A20, c20, hv20, _, _, _, _⟩ := Sl.of_own o20
          subst hv20
          have HO := hid o20
          have BASE : Hid (w.heap.size ≤ w5.heap.size) := hid HB.out.size
          have KGL : Hid (KG < w5.heap.size) := hid DG.out.lt
          have K6L : Hid (K6 < w5.heap.size) := hid D6.out.lt
          replace DG := hid (DG.out.on b20)
          replace D6 := hid (D6.out.on b20)
          replace D7 := hid (D7.out.on b20)
          replace HB := hid (Bl.call HB.out b20)
          have OK20 : Hid (∀ K, K < w5.heap.size → Off K (.slice A20 (Tp.setT (es) x y ((t : Int) + 1)).length c20)) := hid (fun K hK => own_isOff HO.out hK)
          obtain ⟨w21, hw21⟩ : ∃ z, z = w20.setCell ⟨KG, 4, none⟩ (.slice A20 (Tp.setT (es) x y ((t : Int) + 1)).length c20) := ⟨_, rfl⟩
          have SE : Hid (Sl w21 w21.heap.size 3 (.slice A20 (Tp.setT (es) x y ((t : Int) + 1)).length c20) (Tp.setT (es) x y ((t : Int) + 1)).length (eds (Tp.setT (es) x y ((t : Int) + 1)))) := hid (by rw [hw21]; exact (Sl.of_own HO.out).off (OK20.out _ KGL.out))
          replace OFF6 := hid (OK20.out _ K6L.out)
          have DG2 : Hid (Blk w21 KG 28 [.int .i64 (n : Int), .int .i64 (L : Int), .int .i64 (R : Int), .slice A1 hs.length c1, .slice A20 (Tp.setT (es) x y ((t : Int) + 1)).length c20]) := hid (by rw [hw21]; exact DG.out.put 4 (.slice A20 (Tp.setT (es) x y ((t : Int) + 1)).length c20))
          have D62 : Hid (Blk w21 K6 28 [.int .i64 0, .int .i64 0, .int .i64 0, .slice none 0 0, .slice none 0 0]) := hid (by rw [hw21]; exact D6.out.far (p := ⟨KG, 4, none⟩) NE6.out _)
          have HB2 : Hid (Below w.heap.size w w21) := hid (by rw [hw21]; exact HB.out.setCell (p := ⟨KG, 4, none⟩) LOG.out _)
          have HW21 := hid hw21
          clear o20 b20 hw21
          have g4 := DG.out.cell 4
          have f4 := DG.out.frozen 4
          go_upto_region 14 with (fail)
          rw [← HW21.out]
          clear g4 f4 DG D6 D7 HB
          have DG := DG2
          have D6 := D62
          have HB := HB2
          clear DG2 D62 HB2
          have g0 := DG.out.cell 0
          have g1 := DG.out.cell 1
          have g2 := DG.out.cell 2
          have g3 := DG.out.cell 3
          have g4 := DG.out.cell 4
          have f0 := D6.out.frozen 0
          have f1 := D6.out.frozen 1
          have f2 := D6.out.frozen 2
          have f3 := D6.out.frozen 3
          have f4 := D6.out.frozen 4
          have p0 := D6.out.cell 0
          have p1 := D6.out.cell 1
          have p2 := D6.out.cell 2
          have p3 := D6.out.cell 3
          have p4 := D6.out.cell 4
          obtain ⟨w99, hw⟩ : ∃ z, z = (((((w21.setCell ⟨K6, 0, none⟩ (.int .i64 (n : Int))).setCell ⟨K6, 1, none⟩ (.int .i64 (L : Int))).setCell ⟨K6, 2, none⟩ (.int .i64 (R : Int))).setCell ⟨K6, 3, none⟩ (.slice A1 hs.length c1)).setCell ⟨K6, 4, none⟩ (.slice A20 (Tp.setT (es) x y ((t : Int) + 1)).length c20)) := ⟨_, rfl⟩
          have D8 : Hid (Blk w99 K6 28 [.int .i64 (n : Int), .int .i64 (L : Int), .int .i64 (R : Int), .slice A1 hs.length c1, .slice A20 (Tp.setT (es) x y ((t : Int) + 1)).length c20]) := hid (by rw [hw]; exact put5_blk D6.out)
          have HB8 : Hid (Below w.heap.size w w99) := hid (by rw [hw]; exact put5_bel HB.out LO6.out)
          have SE8 := hid (put5_sl (a := .int .i64 (n : Int)) (b := .int .i64 (L : Int)) (c := .int .i64 (R : Int)) (d := .slice A1 hs.length c1) (e := .slice A20 (Tp.setT (es) x y ((t : Int) + 1)).length c20) SE.out OFF6.out)
          rw [← hw] at SE8
          have HW8 := hid hw
          clear hw
          go_wp2
          rw [← HW8.out]
          clear g0 g1 g2 g3 g4
          clear f0 f1 f2 f3 f4
          clear p0 p1 p2 p3 p4
          have e0 := D8.out.cell 0
          have e1 := D8.out.cell 1
          have e2 := D8.out.cell 2
          have e3 := D8.out.cell 3
          have e4 := D8.out.cell 4
          exact bodyPost_ret (v := .agg #[.int .i64 (n : Int), .int .i64 (L : Int), .int .i64 (R : Int), .slice A1 hs.length c1, .slice A20 (Tp.setT (es) x y ((t : Int) + 1)).length c20]) (by simp [results, Tryz.results56, go_sem, e0, e1, e2, e3, e4]) rfl ⟨_, rfl, by rw [HEQ.out]; exact SE8.out, fun K hK _ => OK20.out K (by have := BASE.out; omega), HB8.out⟩
        case pos =>
          subst ht0e
          have hne0 : ((0 : Int) == 0) = true := rfl
          have TAB := hid HP.out.tab
          have LEN : Hid (es.length ≤ 1000000) := hid (Nat.le_trans HP.out.el (by decide))
          have FST : Hid (Pt.Fst n (Pt.uv (frs L es))) := hid HP.out.gd.fs
          have hn1024 : n ≤ 1024 := by omega
          have k0 := D7.out.cell 0
          have k1 := D7.out.cell 1
          have k2 := D7.out.cell 2
          go_wp2_with fail
          refine (tforest_any (n := (n : Int)) (k := (L : Int)) GM1.out.se TAB.out LEN.out).mono ?_; rintro e w6 ⟨v6, rfl, s6, b6⟩
          clear g0 g1 g2 g3 g4
          clear k0 k1 k2
          replace DG := hid (DG.out.on b6)
          replace D6 := hid (D6.out.on b6)
          replace D7 := hid (D7.out.on b6)
          replace GM1 := hid (GM1.out.call b6)
          replace HB := hid (Bl.call HB.out b6)
          have SF := hid s6
          clear s6 b6
          have g0 := DG.out.cell 0
          have g1 := DG.out.cell 1
          have g2 := DG.out.cell 2
          have g3 := DG.out.cell 3
          have g4 := DG.out.cell 4
          have k0 := D7.out.cell 0
          have k1 := D7.out.cell 1
          have k2 := D7.out.cell 2
          by_cases hcn : Pt.Cn n (Pt.uv (frs L es)) x y
          case neg =>
            have HEQ : Hid (es' = Tp.setT es x y ((t : Int) + 1)) := hid (by rw [HEN.out, rem_no _ (.inr hcn)])
            go_wp2_with fail
            refine (path_none hn1024 SF.out FST.out ⟨x1, x2⟩ ⟨y1, y2⟩ hcn).mono ?_; rintro e w7 ⟨rfl, b7⟩
            clear g0 g1 g2 g3 g4
            clear k0 k1 k2
            replace DG := hid (DG.out.on b7)
            replace D6 := hid (D6.out.on b7)
            replace D7 := hid (D7.out.on b7)
            replace GM1 := hid (GM1.out.call b7)
            replace HB := hid (Bl.call HB.out b7)
            clear b7 hcn SF
            go_wp2_with fail
            refine (greatest_nil _).mono ?_; rintro e w8 ⟨rfl, b8⟩
            replace DG := hid (DG.out.on b8)
            replace D6 := hid (D6.out.on b8)
            replace D7 := hid (D7.out.on b8)
            replace GM1 := hid (GM1.out.call b8)
            replace HB := hid (Bl.call HB.out b8)
            clear b8
            have bz9 := bel_new w8 (.cells #[.int .i64 0, .int .i64 0, .int .i64 0] 35)
            obtain ⟨w9, hw9⟩ : ∃ W, W = w8.alloc (.cells #[.int .i64 0, .int .i64 0, .int .i64 0] 35) := ⟨_, rfl⟩
            rw [← hw9] at bz9
            replace DG := hid (DG.out.on bz9)
            replace D6 := hid (D6.out.on bz9)
            replace D7 := hid (D7.out.on bz9)
            replace GM1 := hid (GM1.out.call bz9)
            replace HB := hid (Bl.call HB.out bz9)
            have HW9 := hid hw9
            clear bz9 hw9
            have SLE := hid GM1.out.se
            go_upto_region 11 with (fail)
            rw [← HW9.out]
            have g0 := DG.out.cell 0
            have g1 := DG.out.cell 1
            have g2 := DG.out.cell 2
            have g3 := DG.out.cell 3
            have g4 := DG.out.cell 4
            have k0 := D7.out.cell 0
            have k1 := D7.out.cell 1
            have k2 := D7.out.cell 2
            go_wp2_with fail
            refine (tset_ok (n := (n : Int)) (l := es) (u := x) (v := y) (t := (t : Int) + 1) SLE.out TAB.out x1 x2 y1 y2 ht0 hL16 HFI.out LEN.out).mono ?_; rintro e w20 ⟨v20, rfl, o20, b20⟩
            clear g0 g1 g2 g3 g4
            clear k0 k1 k2
            obtain ⟨A20, c20, hv20, _, _, _, _⟩ := Sl.of_own o20
            subst hv20
            have HO := hid o20
            have BASE : Hid (w.heap.size ≤ w9.heap.size) := hid HB.out.size
            have KGL : Hid (KG < w9.heap.size) := hid DG.out.lt
            have K6L : Hid (K6 < w9.heap.size) := hid D6.out.lt
            replace DG := hid (DG.out.on b20)
            replace D6 := hid (D6.out.on b20)
            replace D7 := hid (D7.out.on b20)
            replace HB := hid (Bl.call HB.out b20)
            have OK20 : Hid (∀ K, K < w9.heap.size → Off K (.slice A20 (Tp.setT (es) x y ((t : Int) + 1)).length c20)) := hid (fun K hK => own_isOff HO.out hK)
            obtain ⟨w21, hw21⟩ : ∃ z, z = w20.setCell ⟨KG, 4, none⟩ (.slice A20 (Tp.setT (es) x y ((t : Int) + 1)).length c20) := ⟨_, rfl⟩
            have SE : Hid (Sl w21 w21.heap.size 3 (.slice A20 (Tp.setT (es) x y ((t : Int) + 1)).length c20) (Tp.setT (es) x y ((t : Int) + 1)).length (eds (Tp.setT (es) x y ((t : Int) + 1)))) := hid (by rw [hw21]; exact (Sl.of_own HO.out).off (OK20.out _ KGL.out))
            replace OFF6 := hid (OK20.out _ K6L.out)
            have DG2 : Hid (Blk w21 KG 28 [.int .i64 (n : Int), .int .i64 (L : Int), .int .i64 (R : Int), .slice A1 hs.length c1, .slice A20 (Tp.setT (es) x y ((t : Int) + 1)).length c20]) := hid (by rw [hw21]; exact DG.out.put 4 (.slice A20 (Tp.setT (es) x y ((t : Int) + 1)).length c20))
            have D62 : Hid (Blk w21 K6 28 [.int .i64 0, .int .i64 0, .int .i64 0, .slice none 0 0, .slice none 0 0]) := hid (by rw [hw21]; exact D6.out.far (p := ⟨KG, 4, none⟩) NE6.out _)
            have HB2 : Hid (Below w.heap.size w w21) := hid (by rw [hw21]; exact HB.out.setCell (p := ⟨KG, 4, none⟩) LOG.out _)
            have HW21 := hid hw21
            clear o20 b20 hw21
            have g4 := DG.out.cell 4
            have f4 := DG.out.frozen 4
            go_upto_region 14 with (fail)
            rw [← HW21.out]
            clear g4 f4 DG D6 D7 HB
            have DG := DG2
            have D6 := D62
            have HB := HB2
            clear DG2 D62 HB2
            have g0 := DG.out.cell 0
            have g1 := DG.out.cell 1
            have g2 := DG.out.cell 2
            have g3 := DG.out.cell 3
            have g4 := DG.out.cell 4
            have f0 := D6.out.frozen 0
            have f1 := D6.out.frozen 1
            have f2 := D6.out.frozen 2
            have f3 := D6.out.frozen 3
            have f4 := D6.out.frozen 4
            have p0 := D6.out.cell 0
            have p1 := D6.out.cell 1
            have p2 := D6.out.cell 2
            have p3 := D6.out.cell 3
            have p4 := D6.out.cell 4
            obtain ⟨w99, hw⟩ : ∃ z, z = (((((w21.setCell ⟨K6, 0, none⟩ (.int .i64 (n : Int))).setCell ⟨K6, 1, none⟩ (.int .i64 (L : Int))).setCell ⟨K6, 2, none⟩ (.int .i64 (R : Int))).setCell ⟨K6, 3, none⟩ (.slice A1 hs.length c1)).setCell ⟨K6, 4, none⟩ (.slice A20 (Tp.setT (es) x y ((t : Int) + 1)).length c20)) := ⟨_, rfl⟩
            have D8 : Hid (Blk w99 K6 28 [.int .i64 (n : Int), .int .i64 (L : Int), .int .i64 (R : Int), .slice A1 hs.length c1, .slice A20 (Tp.setT (es) x y ((t : Int) + 1)).length c20]) := hid (by rw [hw]; exact put5_blk D6.out)
            have HB8 : Hid (Below w.heap.size w w99) := hid (by rw [hw]; exact put5_bel HB.out LO6.out)
            have SE8 := hid (put5_sl (a := .int .i64 (n : Int)) (b := .int .i64 (L : Int)) (c := .int .i64 (R : Int)) (d := .slice A1 hs.length c1) (e := .slice A20 (Tp.setT (es) x y ((t : Int) + 1)).length c20) SE.out OFF6.out)
            rw [← hw] at SE8
            have HW8 := hid hw
            clear hw
            go_wp2
            rw [← HW8.out]
            clear g0 g1 g2 g3 g4
            clear f0 f1 f2 f3 f4
            clear p0 p1 p2 p3 p4
            have e0 := D8.out.cell 0
            have e1 := D8.out.cell 1
            have e2 := D8.out.cell 2
            have e3 := D8.out.cell 3
            have e4 := D8.out.cell 4
            exact bodyPost_ret (v := .agg #[.int .i64 (n : Int), .int .i64 (L : Int), .int .i64 (R : Int), .slice A1 hs.length c1, .slice A20 (Tp.setT (es) x y ((t : Int) + 1)).length c20]) (by simp [results, Tryz.results56, go_sem, e0, e1, e2, e3, e4]) rfl ⟨_, rfl, by rw [HEQ.out]; exact SE8.out, fun K hK _ => OK20.out K (by have := BASE.out; omega), HB8.out⟩
          case pos =>
            go_wp2_with fail
            refine (path_ok hn1024 SF.out FST.out ⟨x1, x2⟩ ⟨y1, y2⟩ hcn).mono ?_; rintro e w7 ⟨v7, pp, rfl, hsm, s7, b7⟩
            clear g0 g1 g2 g3 g4
            clear k0 k1 k2
            replace DG := hid (DG.out.on b7)
            replace D6 := hid (D6.out.on b7)
            replace D7 := hid (D7.out.on b7)
            replace GM1 := hid (GM1.out.call b7)
            replace HB := hid (Bl.call HB.out b7)
            have SP := hid s7
            clear b7 s7 hcn SF
            obtain ⟨da, dl, hda, hdin, hrem⟩ := rem_some HP.out (List.mem_of_getElem? HIO.out) rfl hsm
            rw [hda] at SP
            clear hsm hda
            go_wp2_with fail
            refine (greatest_any SP.out).mono ?_; rintro e w8 ⟨rfl, b8⟩
            replace DG := hid (DG.out.on b8)
            replace D6 := hid (D6.out.on b8)
            replace D7 := hid (D7.out.on b8)
            replace GM1 := hid (GM1.out.call b8)
            replace HB := hid (Bl.call HB.out b8)
            clear b8 SP
            obtain ⟨HDT1, HDT2, HDT3, HDT4⟩ := set_facts HP.out hdin (t := 0) (by decide) (by decide)
            have hdok := HP.out.gd.in1 hdin
            generalize dl.foldl Tp.gre1 da = dd at *
            obtain ⟨dx, dy, dt⟩ := dd
            dsimp only at hrem HDT1 HDT2 HDT3 HDT4 hdok
            unfold Pt.InR at hdok
            obtain ⟨⟨dx1, dx2⟩, dy1, dy2⟩ := hdok
            obtain ⟨jd, hjd⟩ := HDT4
            have HEQ : Hid (es' = Tp.setT (Tp.setT es dx dy 0) x y ((t : Int) + 1)) := hid (by rw [HEN.out, hrem])
            have TAB2 := hid HDT1
            have FI2 : Hid (Tp.fiP (Pt.uv (Tp.setT es dx dy 0)) x y = some io) := hid (by rw [HDT2]; exact HFI.out)
            have LEN2 : Hid ((Tp.setT es dx dy 0).length ≤ 1000000) := hid (by rw [HDT3]; exact LEN.out)
            have FID := hid hjd
            clear HDT1 HDT2 HDT3 hjd hrem hdin
            have bz9 := bel_new w8 (.cells #[.int .i64 dx, .int .i64 dy, .int .i64 dt] 35)
            obtain ⟨w9, hw9⟩ : ∃ W, W = w8.alloc (.cells #[.int .i64 dx, .int .i64 dy, .int .i64 dt] 35) := ⟨_, rfl⟩
            obtain ⟨K13, hK13⟩ : ∃ K, K = w8.heap.size := ⟨_, rfl⟩
            have D13 : Hid (Blk w9 K13 35 [.int .i64 dx, .int .i64 dy, .int .i64 dt]) := hid (by rw [hw9, hK13]; exact Blk.new _ _ _)
            rw [← hw9] at bz9
            replace DG := hid (DG.out.on bz9)
            replace D6 := hid (D6.out.on bz9)
            replace D7 := hid (D7.out.on bz9)
            replace GM1 := hid (GM1.out.call bz9)
            replace HB := hid (Bl.call HB.out bz9)
            have HW9 := hid hw9
            have HK13 := hid hK13
            clear bz9 hw9 hK13
            have SLE := hid GM1.out.se
            go_upto_region 11 with (fail)
            rw [← HW9.out, ← HK13.out]
            have g0 := DG.out.cell 0
            have g1 := DG.out.cell 1
            have g2 := DG.out.cell 2
            have g3 := DG.out.cell 3
            have g4 := DG.out.cell 4
            have k0 := D13.out.cell 0
            have k1 := D13.out.cell 1
            have k2 := D13.out.cell 2
            go_wp2_with fail
            refine (tset_ok (n := (n : Int)) (l := es) (u := dx) (v := dy) (t := 0) SLE.out TAB.out dx1 dx2 dy1 dy2 (by decide) (by decide) FID.out LEN.out).mono ?_; rintro e w10 ⟨v10, rfl, o10, b10⟩
            obtain ⟨A10, c10, hv10, _, _, _, _⟩ := Sl.of_own o10
            subst hv10
            clear g0 g1 g2 g3 g4
            clear k0 k1 k2
            have HO10 := hid o10
            have BASE9 : Hid (w.heap.size ≤ w9.heap.size) := hid HB.out.size
            have KGL9 : Hid (KG < w9.heap.size) := hid DG.out.lt
            replace DG := hid (DG.out.on b10)
            replace D6 := hid (D6.out.on b10)
            replace D7 := hid (D7.out.on b10)
            replace HB := hid (Bl.call HB.out b10)
            obtain ⟨w11, hw11⟩ : ∃ z, z = w10.setCell ⟨KG, 4, none⟩ (.slice A10 (Tp.setT es dx dy 0).length c10) := ⟨_, rfl⟩
            have SLE2 : Hid (Sl w11 w11.heap.size 3 (.slice A10 (Tp.setT es dx dy 0).length c10) (Tp.setT es dx dy 0).length (eds (Tp.setT es dx dy 0))) := hid (by rw [hw11]; exact (Sl.of_own HO10.out).off (own_isOff HO10.out KGL9.out))
            have DG2 : Hid (Blk w11 KG 28 [.int .i64 (n : Int), .int .i64 (L : Int), .int .i64 (R : Int), .slice A1 hs.length c1, .slice A10 (Tp.setT es dx dy 0).length c10]) := hid (by rw [hw11]; exact DG.out.put 4 (.slice A10 (Tp.setT es dx dy 0).length c10))
            have D62 : Hid (Blk w11 K6 28 [.int .i64 0, .int .i64 0, .int .i64 0, .slice none 0 0, .slice none 0 0]) := hid (by rw [hw11]; exact D6.out.far (p := ⟨KG, 4, none⟩) NE6.out _)
            have D72 : Hid (Blk w11 K7 35 [.int .i64 x, .int .i64 y, .int .i64 0]) := hid (by rw [hw11]; exact D7.out.far (p := ⟨KG, 4, none⟩) (Ne.symm NE7.out) _)
            have HB2 : Hid (Below w.heap.size w w11) := hid (by rw [hw11]; exact HB.out.setCell (p := ⟨KG, 4, none⟩) LOG.out _)
            have HW11 := hid hw11
            clear o10 b10 hw11
            have g4 := DG.out.cell 4
            have f4 := DG.out.frozen 4
            go_upto_region 13 with (fail)
            rw [← HW11.out]
            clear g4 f4 DG D6 D7 HB GM1 D13 SLE
            have DG := DG2
            have D6 := D62
            have D7 := D72
            have HB := HB2
            clear DG2 D62 D72 HB2
            have g0 := DG.out.cell 0
            have g1 := DG.out.cell 1
            have g2 := DG.out.cell 2
            have g3 := DG.out.cell 3
            have g4 := DG.out.cell 4
            have k0 := D7.out.cell 0
            have k1 := D7.out.cell 1
            have k2 := D7.out.cell 2
            go_wp2_with fail
            refine (tset_ok (n := (n : Int)) (l := Tp.setT es dx dy 0) (u := x) (v := y) (t := (t : Int) + 1) SLE2.out TAB2.out x1 x2 y1 y2 ht0 hL16 FI2.out LEN2.out).mono ?_; rintro e w20 ⟨v20, rfl, o20, b20⟩
            clear g0 g1 g2 g3 g4
            clear k0 k1 k2
            obtain ⟨A20, c20, hv20, _, _, _, _⟩ := Sl.of_own o20
            subst hv20
            have HO := hid o20
            have BASE : Hid (w.heap.size ≤ w11.heap.size) := hid HB.out.size
            have KGL : Hid (KG < w11.heap.size) := hid DG.out.lt
            have K6L : Hid (K6 < w11.heap.size) := hid D6.out.lt
            replace DG := hid (DG.out.on b20)
            replace D6 := hid (D6.out.on b20)
            replace D7 := hid (D7.out.on b20)
            replace HB := hid (Bl.call HB.out b20)
            have OK20 : Hid (∀ K, K < w11.heap.size → Off K (.slice A20 (Tp.setT (Tp.setT es dx dy 0) x y ((t : Int) + 1)).length c20)) := hid (fun K hK => own_isOff HO.out hK)
            obtain ⟨w21, hw21⟩ : ∃ z, z = w20.setCell ⟨KG, 4, none⟩ (.slice A20 (Tp.setT (Tp.setT es dx dy 0) x y ((t : Int) + 1)).length c20) := ⟨_, rfl⟩
            have SE : Hid (Sl w21 w21.heap.size 3 (.slice A20 (Tp.setT (Tp.setT es dx dy 0) x y ((t : Int) + 1)).length c20) (Tp.setT (Tp.setT es dx dy 0) x y ((t : Int) + 1)).length (eds (Tp.setT (Tp.setT es dx dy 0) x y ((t : Int) + 1)))) := hid (by rw [hw21]; exact (Sl.of_own HO.out).off (OK20.out _ KGL.out))
            replace OFF6 := hid (OK20.out _ K6L.out)
            have DG2 : Hid (Blk w21 KG 28 [.int .i64 (n : Int), .int .i64 (L : Int), .int .i64 (R : Int), .slice A1 hs.length c1, .slice A20 (Tp.setT (Tp.setT es dx dy 0) x y ((t : Int) + 1)).length c20]) := hid (by rw [hw21]; exact DG.out.put 4 (.slice A20 (Tp.setT (Tp.setT es dx dy 0) x y ((t : Int) + 1)).length c20))
            have D62 : Hid (Blk w21 K6 28 [.int .i64 0, .int .i64 0, .int .i64 0, .slice none 0 0, .slice none 0 0]) := hid (by rw [hw21]; exact D6.out.far (p := ⟨KG, 4, none⟩) NE6.out _)
            have HB2 : Hid (Below w.heap.size w w21) := hid (by rw [hw21]; exact HB.out.setCell (p := ⟨KG, 4, none⟩) LOG.out _)
            have HW21 := hid hw21
            clear o20 b20 hw21
            have g4 := DG.out.cell 4
            have f4 := DG.out.frozen 4
            go_upto_region 14 with (fail)
            rw [← HW21.out]
            clear g4 f4 DG D6 D7 HB
            have DG := DG2
            have D6 := D62
            have HB := HB2
            clear DG2 D62 HB2
            have g0 := DG.out.cell 0
            have g1 := DG.out.cell 1
            have g2 := DG.out.cell 2
            have g3 := DG.out.cell 3
            have g4 := DG.out.cell 4
            have f0 := D6.out.frozen 0
            have f1 := D6.out.frozen 1
            have f2 := D6.out.frozen 2
            have f3 := D6.out.frozen 3
            have f4 := D6.out.frozen 4
            have p0 := D6.out.cell 0
            have p1 := D6.out.cell 1
            have p2 := D6.out.cell 2
            have p3 := D6.out.cell 3
            have p4 := D6.out.cell 4
            obtain ⟨w99, hw⟩ : ∃ z, z = (((((w21.setCell ⟨K6, 0, none⟩ (.int .i64 (n : Int))).setCell ⟨K6, 1, none⟩ (.int .i64 (L : Int))).setCell ⟨K6, 2, none⟩ (.int .i64 (R : Int))).setCell ⟨K6, 3, none⟩ (.slice A1 hs.length c1)).setCell ⟨K6, 4, none⟩ (.slice A20 (Tp.setT (Tp.setT es dx dy 0) x y ((t : Int) + 1)).length c20)) := ⟨_, rfl⟩
            have D8 : Hid (Blk w99 K6 28 [.int .i64 (n : Int), .int .i64 (L : Int), .int .i64 (R : Int), .slice A1 hs.length c1, .slice A20 (Tp.setT (Tp.setT es dx dy 0) x y ((t : Int) + 1)).length c20]) := hid (by rw [hw]; exact put5_blk D6.out)
            have HB8 : Hid (Below w.heap.size w w99) := hid (by rw [hw]; exact put5_bel HB.out LO6.out)
            have SE8 := hid (put5_sl (a := .int .i64 (n : Int)) (b := .int .i64 (L : Int)) (c := .int .i64 (R : Int)) (d := .slice A1 hs.length c1) (e := .slice A20 (Tp.setT (Tp.setT es dx dy 0) x y ((t : Int) + 1)).length c20) SE.out OFF6.out)
            rw [← hw] at SE8
            have HW8 := hid hw
            clear hw
            go_wp2
            rw [← HW8.out]
            clear g0 g1 g2 g3 g4
            clear f0 f1 f2 f3 f4
            clear p0 p1 p2 p3 p4
            have e0 := D8.out.cell 0
            have e1 := D8.out.cell 1
            have e2 := D8.out.cell 2
            have e3 := D8.out.cell 3
            have e4 := D8.out.cell 4
            exact bodyPost_ret (v := .agg #[.int .i64 (n : Int), .int .i64 (L : Int), .int .i64 (R : Int), .slice A1 hs.length c1, .slice A20 (Tp.setT (Tp.setT es dx dy 0) x y ((t : Int) + 1)).length c20]) (by simp [results, Tryz.results56, go_sem, e0, e1, e2, e3, e4]) rfl ⟨_, rfl, by rw [HEQ.out]; exact SE8.out, fun K hK _ => OK20.out K (by have := BASE.out; omega), HB8.out⟩
end
end Go.Proofs.YtahodfikhocobaaGreatDoor
