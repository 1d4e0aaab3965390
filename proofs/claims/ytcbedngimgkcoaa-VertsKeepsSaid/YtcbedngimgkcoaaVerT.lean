/- The walk of VertsKeeps. -/
import Derived.Test.YtcbedngimgkcoaaVerS
import Derived.IntWalk
namespace Go.Proofs.Ytcbedngimgkcoaa
open Go.RowKit
set_option linter.unusedVariables false
set_option linter.unusedSimpArgs false
attribute [local go_sem ↓] Go.wp_at_zero Go.wp_at_succ
def pk (P : List (Int × Int)) : List Int := P.map (·.1)
def pj (P : List (Int × Int)) : List Int := P.map (·.2)
theorem pk_len (P : List (Int × Int)) : (pk P).length = P.length := by simp [pk]
theorem pj_len (P : List (Int × Int)) : (pj P).length = P.length := by simp [pj]
theorem pk_at (P : List (Int × Int)) {t : Nat} (h : t < P.length) : (pk P).getD t 0 = P[t].1 := by simp [pk, List.getD, h]
theorem pj_at (P : List (Int × Int)) {t : Nat} (h : t < P.length) : (pj P).getD t 0 = P[t].2 := by simp [pj, List.getD, h]
theorem Two.two {wa wb : World} {B m : Nat} {v1 v2 : Value} {ks is_ : List Int} {B1 : Nat} (o1 : wa.ownsRow B1 23 1 v1 m (uks ks)) (h1 : B ≤ B1) (o2 : wb.ownsRow wa.heap.size 3 1 v2 m (ints is_)) (h2 : B ≤ wa.heap.size) (hb : Below wa.heap.size wa wb) : Two wb B v1 ks v2 is_ m := by
  refine ⟨own_more (own_below o1 hb) h1, own_more o2 h2, fun g hg e => ?_⟩
  have a := (o1.lt g hg).2
  have b := (o2.lt g e).1
  omega
theorem base_alloc' {w : World} {B : Nat} (h : B ≤ w.heap.size) (o : Obj) : B ≤ (w.alloc o).heap.size := by simp; omega
theorem exec_take {t e : TypeId} {z : Value} {sz by_ : Nat} (hT : SlT t e z sz by_) {ρ : Operand → Value} {o : Oper} {x k : Operand} (ho : o.op = .slice t x none (some k) none) {A : Option Addr} {n c kk : Nat} (hx : ρ x = .slice A n c) (hk : ρ k = .int .i64 (kk : Int)) (h : kk ≤ c) (w : World) :
    (execOp ρ o).run Try.prog w = .ok (.value (.slice (cutA A c 0 sz) kk c)) w := by
  unfold execOp
  rw [ho]
  simp only [hx, hk, Option.map_some, Option.map_none, Sem.run_bind, run_sliceAt_slice (P := Try.prog) w t _ _ _ _ (und_of hT), run_take_of hT A n c kk h w, Result.andThen_ok, Sem.run_pure]
theorem exec_drop {t e : TypeId} {z : Value} {sz by_ : Nat} (hT : SlT t e z sz by_) {ρ : Operand → Value} {o : Oper} {x k : Operand} (ho : o.op = .slice t x (some k) none none) {A : Option Addr} {n c kk : Nat} {zz : Int} (hx : ρ x = .slice A n c) (hk : ρ k = .int .i64 zz) (hz : zz = (kk : Int)) (h : kk ≤ n) (w : World) :
    (execOp ρ o).run Try.prog w = .ok (.value (.slice (cutA A c kk sz) (n - kk) (c - kk))) w := by
  subst hz
  unfold execOp
  rw [ho]
  simp only [hx, hk, Option.map_some, Option.map_none, Sem.run_bind, run_sliceAt_slice (P := Try.prog) w t _ _ _ _ (und_of hT), run_drop_of hT A n c kk h w, Result.andThen_ok, Sem.run_pure]
theorem ints_take (l : List Int) (k : Nat) : (ints l).take (k * 1) = ints (l.take k) := by simp [ints, List.map_take]
theorem ints_drop (l : List Int) (k : Nat) : (ints l).drop (k * 1) = ints (l.drop k) := by simp [ints, List.map_drop]
theorem Two.two' {wa wb : World} {B m m' : Nat} {v1 v2 : Value} {k1 k2 i1 i2 : List Int} {B1 : Nat} (o1 : wa.ownsRow B1 23 1 v1 m' (uks k1 ++ uks k2)) (h1 : B ≤ B1) (o2 : wb.ownsRow wa.heap.size 3 1 v2 m' (ints i1 ++ ints i2)) (h2 : B ≤ wa.heap.size) (hb : Below wa.heap.size wa wb) (hm : m' = m) : Two wb B v1 (k1 ++ k2) v2 (i1 ++ i2) m := by
  subst hm
  rw [uks_app] at o1
  rw [ints_app] at o2
  exact Two.two o1 h1 o2 h2 hb
theorem pk_erase (P : List (Int × Int)) (t : Nat) : pk (P.eraseIdx t) = (pk P).take t ++ (pk P).drop (t + 1) := Vt.map_erase P t
theorem pj_erase (P : List (Int × Int)) (t : Nat) : pj (P.eraseIdx t) = (pj P).take t ++ (pj P).drop (t + 1) := Vt.map_erase P t
theorem pk_snoc (P : List (Int × Int)) (e : Int × Int) : pk (P ++ [e]) = pk P ++ [e.1] := by simp [pk]
theorem pj_snoc (P : List (Int × Int)) (e : Int × Int) : pj (P ++ [e]) = pj P ++ [e.2] := by simp [pj]
/-- Where a key was found among those ahead of i. -/
def Seen (P : List (Int × Int)) (k T : Int) (i : Nat) : Prop := (T = -1 ∧ ∀ t, (ht : t < P.length) → t < i → P[t].1 ≠ k) ∨ ∃ t : Nat, T = (t : Int) ∧ t < i ∧ ∃ ht : t < P.length, P[t].1 = k
theorem seen_hit {P : List (Int × Int)} {k : Int} {i : Nat} (h : i < P.length) (he : P[i].1 = k) : Seen P k (i : Int) (i + 1) := .inr ⟨i, rfl, Nat.lt_succ_self _, h, he⟩
theorem seen_miss {P : List (Int × Int)} {k T : Int} {i : Nat} (h : i < P.length) (he : P[i].1 ≠ k) (hs : Seen P k T i) : Seen P k T (i + 1) := by
  rcases hs with ⟨a, b⟩ | ⟨t, a, b, c⟩
  · refine .inl ⟨a, fun t ht hti => ?_⟩
    rcases Nat.lt_or_ge t i with h1 | h1
    · exact b t ht h1
    · have : t = i := by omega
      subst this; exact he
  · exact .inr ⟨t, a, by omega, c⟩
theorem seen_all {L : List (Bool × Int)} {P : List (Int × Int)} {s m : Nat} {k T : Int} (hi : Vt.KInv L P s) (hm : P.length = m) (hs : Seen P k T m) : (T = -1 ∧ Vt.fn L k = none) ∨ ∃ t j : Nat, T = (t : Int) ∧ t < m ∧ Vt.fn L k = some j ∧ Vt.KInv (L.set j (false, 0)) (P.eraseIdx t) s := by
  rcases hs with ⟨a, b⟩ | ⟨t, a, b, ht, c⟩
  · exact .inl ⟨a, Vt.kinv_out hi fun t ht => b t ht (by omega)⟩
  · obtain ⟨j, _, h2⟩ := Vt.kinv_in hi ht
    have h3 := Vt.kinv_rem hi ht h2
    rw [c] at h2
    exact .inr ⟨t, j, a, b, h2, h3⟩
set_option maxRecDepth 100000 in
set_option maxHeartbeats 16000000 in
theorem vertsKeeps_walk (n : Int) (v : Value) (na : Nat) (acts : List (Bool × Int)) (w : World) (hn : 0 ≤ n ∧ n ≤ 255) (hs : Sl w w.heap.size 2 v na (sls acts)) :
    Calls Try.prog 4 #[.int .u8 n, v] w (IsTrue w) := by
  have HB := hid (Below.refl w.heap.size w)
  have S0 := hid hs
  have hll : acts.length = na := by have := hs.len; rw [len_sls] at this; omega
  obtain ⟨A, c, rfl, hnc, hcm, -, hx⟩ := hs
  have HX := hid hx
  clear hx hcm hnc
  by_cases g : na ≤ 60
  case neg =>
    have g1 : (60 : Int) < (na : Int) := by omega
    go_enter Try.func4, Try.ntmps4
    go_wp2_with fail
    refine (awake_any _).mono ?_; rintro e w1 ⟨rfl, b_⟩
    replace HB := hid (Bl.call HB.out b_)
    clear b_
    go_wp2
    go_ret
    exact ⟨rfl, HB.out⟩
  have g1 : ¬ (60 : Int) < (na : Int) := by omega
  have HLN := hid hll
  clear hll
  obtain ⟨n0, hn0⟩ := Int.eq_ofNat_of_zero_le hn.1
  obtain ⟨s, hs⟩ : ∃ s : Nat, s = 1 + n0 % 12 := ⟨_, rfl⟩
  have hs2 : 1 + n % 12 = (s : Int) := by omega
  have h1 : 1 ≤ s ∧ s ≤ 12 := by omega
  have H1 := hid h1
  have H2 : Hid (1 ≤ s ∧ s ≤ 1024) := hid (by omega)
  obtain ⟨hn1, hn2⟩ := hn
  clear h1 hn0 hs
  go_enter Try.func4, Try.ntmps4
  go_wp2_with fail
  refine (vnew_ok H2.out _).mono ?_; rintro e w1 ⟨v1, rfl, s1_, b_⟩
  replace HB := hid (Bl.call HB.out b_)
  have S1 := hid s1_
  clear s1_
  clear b_
  go_wp2_with fail
  go_loopw [6, 8, 9, 39] (fun lv kv av iv wr => ∃ (j m : Nat) (L : List (Bool × Int)) (P : List (Int × Int)), iv = .int .i64 (j : Int) ∧ j ≤ na ∧ Hid (Vt.KInv L P s) ∧ Hid (P.length = m) ∧ Hid (Sl wr wr.heap.size 2 lv s (sls L)) ∧ Hid (Two wr w.heap.size kv (pk P) av (pj P) m) ∧ Hid (Below w.heap.size w wr)) (fun _ _ _ iv _ => na - (intOf iv).toNat)
  case atStart => exact ⟨0, 0, List.replicate s (false, 0), [], rfl, Nat.zero_le _, hid (Vt.kinv_new H1.out.1 (by have := H1.out.2; omega)), hid rfl, S1, hid (Two.nil _ _), HB⟩
  case round =>
    clear HB S1
    obtain ⟨j, m, L, P, rfl, hj, HK, HM, S, T2, HB⟩ := hrel
    obtain ⟨w2, rfl⟩ : ∃ x, x = wr := ⟨wr, rfl⟩
    by_cases hlt : j < na
    case neg =>
      obtain rfl : j = na := by omega
      have j0 : ¬ (j : Int) < (j : Int) := by omega
      go_wp2_with fail
      refine (awake_any _).mono ?_; rintro e w9 ⟨rfl, b9⟩
      have HB9 := hid (Bl.call HB.out b9)
      clear b9
      go_wp2
      go_ret
      exact ⟨rfl, HB9.out⟩
    case pos =>
      have j0 : (j : Int) < (na : Int) := by omega
      have hjl : j < acts.length := by rw [HLN.out]; exact hlt
      obtain ⟨b0, o0, rfl, hb0, hc0⟩ := HX.out (by omega)
      obtain ⟨p0, p1⟩ := sls_cell hc0 hjl
      have q0 := (HB.out.cell (p := ⟨b0, o0 + j * 2, none⟩) hb0).trans p0
      have q1 := (HB.out.cell (p := ⟨b0, o0 + j * 2 + 1, none⟩) hb0).trans p1
      generalize acts[j] = act at *
      obtain ⟨u, k⟩ := act
      dsimp only at q0 q1
      clear p0 p1 hc0 hb0 hjl
      obtain ⟨A1, c1, hv1, hm1, hm2, -, hx1⟩ := T2.out.sl1
      have HX1 := hid hx1
      obtain ⟨A2, c2, hv2, hm3, -, -, -⟩ := T2.out.sl2
      obtain ⟨A3, c3, hv3, -, -, -, -⟩ := S.out
      subst hv1 hv2 hv3
      clear hx1 hm2
      have hms : m ≤ s := by have h := HK.out.2.2.2.2.2; have h2 := Vt.cnt_le L; have h3 := HK.out.2.1; have h4 := HM.out; omega
      have hs12 : s ≤ 12 := H1.out.2
      go_wp2_with fail
      obtain ⟨w3, hw3⟩ : ∃ x, x = w2.alloc (.cells #[.bool u, .int .u64 k] 51) := ⟨_, rfl⟩
      obtain ⟨KA, hKA⟩ : ∃ x, x = w2.heap.size := ⟨_, rfl⟩
      have b3 : Below w2.heap.size w2 w3 := by rw [hw3]; exact bel_new _ _
      have DA : Hid (Blk w3 KA 51 [.bool u, .int .u64 k]) := hid (by rw [hw3, hKA]; exact Blk.new _ _ _)
      rw [← hKA, ← hw3]
      replace S := hid (S.out.call b3)
      replace T2 := hid (T2.out.call b3)
      replace HB := hid (Bl.call HB.out b3)
      have HX3 : Hid (0 < m → ∃ b o, A1 = some ⟨b, o, none⟩ ∧ ∀ j u, (uks (pk P))[j]? = some u → w3.cell? ⟨b, o + j, none⟩ = some u) := hid (fun h => by obtain ⟨b, o, h1, h2, h3⟩ := HX1.out h; exact ⟨b, o, h1, fun j u hu => (b3.cell (p := ⟨b, o + j, none⟩) h2).trans (h3 j u hu)⟩)
      clear hw3 hKA b3 q0 q1 HX1
      go_loop [12, 45] (fun tv iv => ∃ (i : Nat) (T : Int), iv = .int .i64 (i : Int) ∧ tv = .int .i64 T ∧ i ≤ m ∧ Hid (Seen P k T i)) (fun _ iv => m - (intOf iv).toNat)
      case atStart => exact ⟨0, -1, rfl, rfl, Nat.zero_le _, hid (.inl ⟨rfl, fun t _ h => absurd h (Nat.not_lt_zero _)⟩)⟩
      case round =>
        obtain ⟨i, T, rfl, rfl, hi, HSN⟩ := hrel
        by_cases him : i < m
        case pos =>
          have i0 : (i : Int) < (m : Int) := by omega
          have hip : i < P.length := by rw [HM.out]; exact him
          obtain ⟨b1, o1, hA1, hc1⟩ := HX3.out (by omega)
          have r0 := uks_cell hc1 (k := i) (by rw [pk_len]; exact hip)
          rw [pk_at P hip] at r0
          have d1 := DA.out.cell 1
          subst hA1
          have HIP := hid hip
          by_cases he : P[i].1 = k
          · have hn1 := seen_hit hip he
            have HN := hid hn1
            generalize P[i].1 = x at *
            have e1 : (x == k) = true := by simp [he]
            clear he hip hc1 hn1
            go_wp2_with fail
            go_round
            case rel => exact ⟨i + 1, (i : Int), by go_num, rfl, by omega, HN⟩
            case measure => simp [intOf]; omega
          · have hn1 := seen_miss hip he HSN.out
            have HN := hid hn1
            generalize P[i].1 = x at *
            have e1 : (x == k) = false := by simp [he]
            clear he hip hc1 hn1
            go_wp2_with fail
            go_round
            case rel => exact ⟨i + 1, T, by go_num, rfl, by omega, HN⟩
            case measure => simp [intOf]; omega
        case neg =>
          obtain rfl : i = m := by omega
          have i0 : ¬ (i : Int) < (i : Int) := by omega
          have HSA := hid (seen_all HK.out HM.out HSN.out)
          have d0 := DA.out.cell 0
          clear HSN
          go_upto_if 57 with (fail)
          clear d0
          go_cut [6, 8, 9] (fun lv kv av wx => ∃ (m : Nat) (L : List (Bool × Int)) (P : List (Int × Int)), Hid (Vt.KInv L P s) ∧ Hid (P.length = m) ∧ Hid (Sl wx wx.heap.size 2 lv s (sls L)) ∧ Hid (Two wx w.heap.size kv (pk P) av (pj P) m) ∧ Hid (Below w.heap.size w wx))
          case first =>
            have d1 := DA.out.cell 1
            cases u with
            | true =>
              rcases HSA.out with ⟨rfl, hf⟩ | ⟨t, jj, rfl, htm, hf, hk2⟩
              · have HR := hid (Vt.rem_none HK.out.1 hf)
                clear hf
                go_wp2_with fail
                refine (vrem_is S.out L 7 HR.out (by decide)).mono ?_; rintro e w4 ⟨v4, rfl, s4_, b_⟩
                replace S := hid (S.out.call b_)
                replace T2 := hid (T2.out.call b_)
                replace HB := hid (Bl.call HB.out b_)
                have S4 := hid s4_
                clear s4_
                clear b_
                go_wp2_with fail
                go_meet
                exact ⟨i, L, P, HK, HM, S4, T2, HB⟩
              · have HR := hid (Vt.rem_ok HK.out.1 hf)
                have HK2 := hid hk2
                clear hf hk2
                go_wp2_with fail
                refine (vrem_is S.out (L.set jj (false, 0)) 0 HR.out (by decide)).mono ?_; rintro e w4 ⟨v4, rfl, s4_, b_⟩
                replace S := hid (S.out.call b_)
                replace T2 := hid (T2.out.call b_)
                replace HB := hid (Bl.call HB.out b_)
                have S4 := hid s4_
                clear s4_
                clear b_
                have t0 : (0 : Int) ≤ (t : Int) := by omega
                have hc1 : i ≤ c1 := hm1
                have HT1 : Hid (t ≤ c1) := hid (by omega)
                have HT3 : Hid (t ≤ c2) := hid (by have := hm3; omega)
                have HT2 : Hid (t + 1 ≤ i) := hid (by omega)
                have hT : ∀ w : World, (Instr.slice 39 (.slice A1 i c1) none (some (.int .i64 (t : Int))) none).run Try.prog w = .ok (.slice (cutA A1 c1 0 1) t c1) w := fun w => run_take_of Tuks A1 i c1 t (by omega) w
                have hD : ∀ w : World, (Instr.slice 39 (.slice A1 i c1) (some (.int .i64 ((t : Int) + 1))) none none).run Try.prog w = .ok (.slice (cutA A1 c1 (t + 1) 1) (i - (t + 1)) (c1 - (t + 1))) w := fun w => run_drop_of Tuks A1 i c1 (t + 1) (by omega) w
                have U1 : Hid (Sl w4 w4.heap.size 1 (.slice (cutA A1 c1 0 1) t c1) t (uks ((pk P).take t))) := hid (by rw [← uks_take]; exact T2.out.sl1.take (by omega))
                have U2 : Hid (Sl w4 w4.heap.size 1 (.slice (cutA A1 c1 (t + 1) 1) (i - (t + 1)) (c1 - (t + 1))) (i - (t + 1)) (uks ((pk P).drop (t + 1)))) := hid (by rw [← uks_drop]; exact T2.out.sl1.drop (by omega))
                have hw1 : IntKind.i64.wrap ((t : Int) + 1) = (t : Int) + 1 := IntWalk.i64_in _ (by omega)
                go_wp2_with fail
                have hb1a : (0 + t) * 8 ≤ 140737488355328 := by omega
                have hb2a : (0 + t + (i - (t + 1))) * 8 ≤ 140737488355328 := by omega
                refine wp_region_held_drew (S := fun _ => True) (by kernel_rfl) trivial (fun hHeld => ?_)
                refine wpAnyH_take (i := 1) (oi := _) (v := ?rv8) rfl (by kernel_rfl) (by kernel_rfl) (by kernel_rfl) (fun _ _ _ h => h) (Or.inl ⟨by rfl, ?ry8⟩) (by assumption) ?rr8
                case ry8 => (intro w hSw; (try dsimp only at hSw); go_simp; try (with_reducible rfl))
                (try simp only [Act.put, List.setIfInBounds_toArray, List.set_cons_zero, List.set_cons_succ, List.getElem_toArray, List.getElem_cons_succ, List.getElem_cons_zero])
                refine wpAnyH_take (i := 2) (oi := _) (v := ?rv9) rfl (by kernel_rfl) (by kernel_rfl) (by kernel_rfl) (fun _ _ _ h => h) (Or.inl ⟨by rfl, ?ry9⟩) (by assumption) ?rr9
                case ry9 => (intro w hSw; (try dsimp only at hSw); go_simp; try (with_reducible rfl))
                (try simp only [Act.put, List.setIfInBounds_toArray, List.set_cons_zero, List.set_cons_succ, List.getElem_toArray, List.getElem_cons_succ, List.getElem_cons_zero])
                refine wpAnyH_take (i := 3) (oi := _) (v := ?rv10) rfl (by kernel_rfl) (by kernel_rfl) (by kernel_rfl) (fun _ _ _ h => h) (Or.inl ⟨by rfl, ?ry10⟩) (by assumption) ?rr10
                case ry10 => (intro w hSw; refine exec_take (A := A1) (n := i) (c := c1) (kk := t) (x := .tmp 73) (k := .tmp 74) Tuks ?_ ?_ ?_ HT1.out _ <;> rfl)
                (try simp only [Act.put, List.setIfInBounds_toArray, List.set_cons_zero, List.set_cons_succ, List.getElem_toArray, List.getElem_cons_succ, List.getElem_cons_zero])
                refine wpAnyH_take (i := 5) (oi := _) (v := ?rv11) rfl (by kernel_rfl) (by kernel_rfl) (by kernel_rfl) (fun _ _ _ h => h) (Or.inl ⟨by rfl, ?ry11⟩) (by assumption) ?rr11
                case ry11 => (intro w hSw; (try dsimp only at hSw); go_simp; try (with_reducible rfl))
                (try simp only [Act.put, List.setIfInBounds_toArray, List.set_cons_zero, List.set_cons_succ, List.getElem_toArray, List.getElem_cons_succ, List.getElem_cons_zero])
                refine wpAnyH_take (i := 6) (oi := _) (v := ?rv12) rfl (by kernel_rfl) (by kernel_rfl) (by kernel_rfl) (fun _ _ _ h => h) (Or.inl ⟨by rfl, ?ry12⟩) (by assumption) ?rr12
                case ry12 => (intro w hSw; (try dsimp only at hSw); go_simp; try (with_reducible rfl))
                (try simp only [Act.put, List.setIfInBounds_toArray, List.set_cons_zero, List.set_cons_succ, List.getElem_toArray, List.getElem_cons_succ, List.getElem_cons_zero])
                refine wpAnyH_take (i := 7) (oi := _) (v := ?rv13) rfl (by kernel_rfl) (by kernel_rfl) (by kernel_rfl) (fun _ _ _ h => h) (Or.inl ⟨by rfl, ?ry13⟩) (by assumption) ?rr13
                case ry13 => (intro w hSw; (try dsimp only at hSw); go_simp; try (with_reducible rfl))
                (try simp only [Act.put, List.setIfInBounds_toArray, List.set_cons_zero, List.set_cons_succ, List.getElem_toArray, List.getElem_cons_succ, List.getElem_cons_zero])
                refine wpAnyH_take (i := 8) (oi := _) (v := ?rv14) rfl (by kernel_rfl) (by kernel_rfl) (by kernel_rfl) (fun _ _ _ h => h) (Or.inl ⟨by rfl, ?ry14⟩) (by assumption) ?rr14
                case ry14 => (intro w hSw; refine exec_drop (A := A1) (n := i) (c := c1) (kk := t + 1) (zz := (t : Int) + 1) (x := .tmp 77) (k := .tmp 79) Tuks ?_ ?_ ?_ (Int.natCast_succ t).symm HT2.out _ <;> rfl)
                (try simp only [Act.put, List.setIfInBounds_toArray, List.set_cons_zero, List.set_cons_succ, List.getElem_toArray, List.getElem_cons_succ, List.getElem_cons_zero])
                refine wpAnyH_ready (rs := [0]) (by kernel_rfl) (by simp) ?_
                refine AllReadyH.cons (o := _) rfl (fun K hK => ?_) ?_
                · go_simp
                  refine hK.out _ _ ?_ (fun hHeld => ?_)
                  · trivial
                  clear hK K
                  (try simp only [Act.put, List.setIfInBounds_toArray, List.set_cons_zero, List.set_cons_succ, List.getElem_toArray, List.getElem_cons_succ, List.getElem_cons_zero])
                  refine wpAnyH_ready (rs := [4]) (by kernel_rfl) (by simp) ?_
                  refine AllReadyH.cons (o := _) rfl (fun K hK => ?_) ?_
                  · skip
                    refine step_appS rfl _ _ Tuks rfl rfl (own_empty _ _ 1 w4.heap.size (Nat.le_refl _)) rfl (Sl.alloc (Sl.qt U1.out (qt_drew _)) (Nat.le_refl _) _) (uks_one _) hb1a (base_alloc' (Nat.le_refl _) _) ?_
                    intro v5 w5 o5 b5
                    refine hK.out _ _ ?_ (fun hHeld => ?_)
                    · trivial
                    clear hK K
                    (try simp only [Act.put, List.setIfInBounds_toArray, List.set_cons_zero, List.set_cons_succ, List.getElem_toArray, List.getElem_cons_succ, List.getElem_cons_zero])
                    refine wpAnyH_ready (rs := [9]) (by kernel_rfl) (by simp) ?_
                    refine AllReadyH.cons (o := _) rfl (fun K hK => ?_) ?_
                    · skip
                      refine step_appS rfl _ _ Tuks rfl rfl o5 rfl (Sl.below (Sl.alloc (Sl.qt U2.out (qt_drew _)) (Nat.le_refl _) _) b5 (Nat.le_refl _)) (uks_one _) hb2a (Nat.le_trans (base_alloc' (Nat.le_refl _) _) b5.size) ?_
                      intro v6 w6 o6 b6
                      refine hK.out _ _ ?_ (fun hHeld => ?_)
                      · trivial
                      clear hK K
                      (try simp only [Act.put, List.setIfInBounds_toArray, List.set_cons_zero, List.set_cons_succ, List.getElem_toArray, List.getElem_cons_succ, List.getElem_cons_zero])
                      refine wpAnyH_ready (rs := [10]) (by kernel_rfl) (by simp) ?_
                      refine AllReadyH.cons (o := _) rfl (fun K hK => ?_) ?_
                      · go_simp
                        refine hK.out _ _ ?_ (fun hHeld => ?_)
                        · trivial
                        clear hK K
                        (try simp only [Act.put, List.setIfInBounds_toArray, List.set_cons_zero, List.set_cons_succ, List.getElem_toArray, List.getElem_cons_succ, List.getElem_cons_zero])
                        refine wpAnyH_done (by kernel_rfl) ?_ _
                        have B46 : Below w4.heap.size w4 w6 := (((qt_drew w4).below _).alloc (Nat.le_refl _) _).trans (b5.trans b6)
                        have O6 := hid o6
                        have Z46 := hid HB.out.size
                        have S6 := hid (S4.out.call B46)
                        have HB6 := hid (Bl.call HB.out B46)
                        have Z06 := hid HB6.out.size
                        have T6 : Hid (w6.ownsRow w.heap.size 3 1 (.slice A2 i c2) i (ints (pj P))) := hid (own_below T2.out.2.1 B46)
                        have U3 : Hid (Sl w6 w6.heap.size 1 (.slice (cutA A2 c2 0 1) t c2) t (ints ((pj P).take t))) := hid (by rw [← ints_take]; exact (Sl.of_own T6.out).take (by omega))
                        have U4 : Hid (Sl w6 w6.heap.size 1 (.slice (cutA A2 c2 (t + 1) 1) (i - (t + 1)) (c2 - (t + 1))) (i - (t + 1)) (ints ((pj P).drop (t + 1)))) := hid (by rw [← ints_drop]; exact (Sl.of_own T6.out).drop (by omega))
                        have HM2 : Hid ((P.eraseIdx t).length = i - 1) := hid (by rw [List.length_eraseIdx_of_lt (by rw [HM.out]; omega), HM.out])
                        have HE : Hid (0 + t + (i - (t + 1)) = i - 1) := hid (by omega)
                        clear B46 b5 b6 o5 o6 U1 U2 hT hD
                        go_wp2_with fail
                        have hb1b : (0 + t) * 8 ≤ 140737488355328 := by omega
                        have hb2b : (0 + t + (i - (t + 1))) * 8 ≤ 140737488355328 := by omega
                        refine wp_region_held_drew (S := fun _ => True) (by kernel_rfl) trivial (fun hHeld => ?_)
                        refine wpAnyH_take (i := 1) (oi := _) (v := ?rv1) rfl (by kernel_rfl) (by kernel_rfl) (by kernel_rfl) (fun _ _ _ h => h) (Or.inl ⟨by rfl, ?ry1⟩) (by assumption) ?rr1
                        case ry1 => (intro w hSw; (try dsimp only at hSw); go_simp; try (with_reducible rfl))
                        (try simp only [Act.put, List.setIfInBounds_toArray, List.set_cons_zero, List.set_cons_succ, List.getElem_toArray, List.getElem_cons_succ, List.getElem_cons_zero])
                        refine wpAnyH_take (i := 2) (oi := _) (v := ?rv2) rfl (by kernel_rfl) (by kernel_rfl) (by kernel_rfl) (fun _ _ _ h => h) (Or.inl ⟨by rfl, ?ry2⟩) (by assumption) ?rr2
                        case ry2 => (intro w hSw; (try dsimp only at hSw); go_simp; try (with_reducible rfl))
                        (try simp only [Act.put, List.setIfInBounds_toArray, List.set_cons_zero, List.set_cons_succ, List.getElem_toArray, List.getElem_cons_succ, List.getElem_cons_zero])
                        refine wpAnyH_take (i := 3) (oi := _) (v := ?rv3) rfl (by kernel_rfl) (by kernel_rfl) (by kernel_rfl) (fun _ _ _ h => h) (Or.inl ⟨by rfl, ?ry3⟩) (by assumption) ?rr3
                        case ry3 => (intro w hSw; refine exec_take (A := A2) (n := i) (c := c2) (kk := t) (x := .tmp 83) (k := .tmp 84) Tints ?_ ?_ ?_ HT3.out _ <;> rfl)
                        (try simp only [Act.put, List.setIfInBounds_toArray, List.set_cons_zero, List.set_cons_succ, List.getElem_toArray, List.getElem_cons_succ, List.getElem_cons_zero])
                        refine wpAnyH_take (i := 5) (oi := _) (v := ?rv4) rfl (by kernel_rfl) (by kernel_rfl) (by kernel_rfl) (fun _ _ _ h => h) (Or.inl ⟨by rfl, ?ry4⟩) (by assumption) ?rr4
                        case ry4 => (intro w hSw; (try dsimp only at hSw); go_simp; try (with_reducible rfl))
                        (try simp only [Act.put, List.setIfInBounds_toArray, List.set_cons_zero, List.set_cons_succ, List.getElem_toArray, List.getElem_cons_succ, List.getElem_cons_zero])
                        refine wpAnyH_take (i := 6) (oi := _) (v := ?rv5) rfl (by kernel_rfl) (by kernel_rfl) (by kernel_rfl) (fun _ _ _ h => h) (Or.inl ⟨by rfl, ?ry5⟩) (by assumption) ?rr5
                        case ry5 => (intro w hSw; (try dsimp only at hSw); go_simp; try (with_reducible rfl))
                        (try simp only [Act.put, List.setIfInBounds_toArray, List.set_cons_zero, List.set_cons_succ, List.getElem_toArray, List.getElem_cons_succ, List.getElem_cons_zero])
                        refine wpAnyH_take (i := 7) (oi := _) (v := ?rv6) rfl (by kernel_rfl) (by kernel_rfl) (by kernel_rfl) (fun _ _ _ h => h) (Or.inl ⟨by rfl, ?ry6⟩) (by assumption) ?rr6
                        case ry6 => (intro w hSw; (try dsimp only at hSw); go_simp; try (with_reducible rfl))
                        (try simp only [Act.put, List.setIfInBounds_toArray, List.set_cons_zero, List.set_cons_succ, List.getElem_toArray, List.getElem_cons_succ, List.getElem_cons_zero])
                        refine wpAnyH_take (i := 8) (oi := _) (v := ?rv7) rfl (by kernel_rfl) (by kernel_rfl) (by kernel_rfl) (fun _ _ _ h => h) (Or.inl ⟨by rfl, ?ry7⟩) (by assumption) ?rr7
                        case ry7 => (intro w hSw; refine exec_drop (A := A2) (n := i) (c := c2) (kk := t + 1) (zz := (t : Int) + 1) (x := .tmp 87) (k := .tmp 89) Tints ?_ ?_ ?_ (Int.natCast_succ t).symm HT2.out _ <;> rfl)
                        (try simp only [Act.put, List.setIfInBounds_toArray, List.set_cons_zero, List.set_cons_succ, List.getElem_toArray, List.getElem_cons_succ, List.getElem_cons_zero])
                        refine wpAnyH_ready (rs := [0]) (by kernel_rfl) (by simp) ?_
                        refine AllReadyH.cons (o := _) rfl (fun K hK => ?_) ?_
                        · go_simp
                          refine hK.out _ _ ?_ (fun hHeld => ?_)
                          · trivial
                          clear hK K
                          (try simp only [Act.put, List.setIfInBounds_toArray, List.set_cons_zero, List.set_cons_succ, List.getElem_toArray, List.getElem_cons_succ, List.getElem_cons_zero])
                          refine wpAnyH_ready (rs := [4]) (by kernel_rfl) (by simp) ?_
                          refine AllReadyH.cons (o := _) rfl (fun K hK => ?_) ?_
                          · skip
                            refine step_appS rfl _ _ Tints rfl rfl (own_empty _ _ 1 w6.heap.size (Nat.le_refl _)) rfl (Sl.alloc (Sl.qt U3.out (qt_drew _)) (Nat.le_refl _) _) (ints_one _) hb1b (base_alloc' (Nat.le_refl _) _) ?_
                            intro v7 w7 o7 b7
                            refine hK.out _ _ ?_ (fun hHeld => ?_)
                            · trivial
                            clear hK K
                            (try simp only [Act.put, List.setIfInBounds_toArray, List.set_cons_zero, List.set_cons_succ, List.getElem_toArray, List.getElem_cons_succ, List.getElem_cons_zero])
                            refine wpAnyH_ready (rs := [9]) (by kernel_rfl) (by simp) ?_
                            refine AllReadyH.cons (o := _) rfl (fun K hK => ?_) ?_
                            · skip
                              refine step_appS rfl _ _ Tints rfl rfl o7 rfl (Sl.below (Sl.alloc (Sl.qt U4.out (qt_drew _)) (Nat.le_refl _) _) b7 (Nat.le_refl _)) (ints_one _) hb2b (Nat.le_trans (base_alloc' (Nat.le_refl _) _) b7.size) ?_
                              intro v8 w8 o8 b8
                              refine hK.out _ _ ?_ (fun hHeld => ?_)
                              · trivial
                              clear hK K
                              (try simp only [Act.put, List.setIfInBounds_toArray, List.set_cons_zero, List.set_cons_succ, List.getElem_toArray, List.getElem_cons_succ, List.getElem_cons_zero])
                              refine wpAnyH_ready (rs := [10]) (by kernel_rfl) (by simp) ?_
                              refine AllReadyH.cons (o := _) rfl (fun K hK => ?_) ?_
                              · go_simp
                                refine hK.out _ _ ?_ (fun hHeld => ?_)
                                · trivial
                                clear hK K
                                (try simp only [Act.put, List.setIfInBounds_toArray, List.set_cons_zero, List.set_cons_succ, List.getElem_toArray, List.getElem_cons_succ, List.getElem_cons_zero])
                                refine wpAnyH_done (by kernel_rfl) ?_ _
                                go_wp2_with fail
                                go_meet
                                have BB8 : Hid (Below w6.heap.size w6 w8) := hid ((((qt_drew w6).below _).alloc (Nat.le_refl _) _).trans (b7.trans b8))
                                exact ⟨i - 1, L.set jj (false, 0), P.eraseIdx t, HK2, HM2, hid (S6.out.call BB8.out), hid (by rw [pk_erase, pj_erase]; exact Two.two' O6.out Z46.out o8 Z06.out BB8.out HE.out), hid (Bl.call HB6.out BB8.out)⟩
                              exact AllReadyH.nil
                            exact AllReadyH.nil
                          exact AllReadyH.nil
                        exact AllReadyH.nil
                      exact AllReadyH.nil
                    exact AllReadyH.nil
                  exact AllReadyH.nil
                exact AllReadyH.nil
            | false =>
              rcases HSA.out with ⟨rfl, hf⟩ | ⟨t, jj, rfl, htm, hf, hk2⟩
              · cases hff : Vt.ff L with
                | none =>
                  have HR := hid (Vt.add_full HK.out.1 hf hff)
                  have hcm : ¬ (i : Int) < (s : Int) := by have h := HK.out.2.2.2.2.2; have h2 := Vt.cnt_full hff; have h3 := HK.out.2.1; have h4 := HM.out; omega
                  clear hf hff
                  go_wp2_with fail
                  refine (vadd_is S.out L 0 10 HR.out (by decide) (by decide)).mono ?_; rintro e w4 ⟨v4, rfl, s4_, b_⟩
                  replace S := hid (S.out.call b_)
                  replace T2 := hid (T2.out.call b_)
                  replace HB := hid (Bl.call HB.out b_)
                  have S4 := hid s4_
                  clear s4_
                  clear b_
                  go_wp2_with fail
                  go_meet
                  exact ⟨i, L, P, HK, HM, S4, T2, HB⟩
                | some q =>
                  have HFN := hid hf
                  have HFF := hid hff
                  have hcm : (i : Int) < (s : Int) := by have h := HK.out.2.2.2.2.2; have h2 := Vt.cnt_free hff; have h3 := HK.out.2.1; have h4 := HM.out; omega
                  have HK2 := hid (Vt.kinv_add HK.out hf hff)
                  have HM2 : Hid ((P ++ [(k, (q : Int))]).length = i + 1) := hid (by rw [List.length_append, HM.out]; rfl)
                  clear hf hff
                  have T23 := T2
                  have S3 := S
                  have hc3 := HK.out
                  have hkk := HFN.out
                  clear hc3 hkk
                  go_wp2_with fail
                  refine (vadd_own (k := k) S.out HK.out.1 HFN.out HFF.out).mono ?_; rintro e w4 ⟨v4, rfl, o4_, b_⟩
                  replace S := hid (S.out.call b_)
                  replace T2 := hid (T2.out.call b_)
                  replace DA := hid (DA.out.below b_ DA.out.lt)
                  replace HB := hid (Bl.call HB.out b_)
                  have O4 := hid o4_
                  clear o4_ b_
                  have d4 := DA.out.cell 1
                  have HZB := hid HB.out.size
                  go_wp2_with (at_builtin; (refine wl_app1L rfl _ _ Tuks rfl rfl T2.out.1 rfl rfl rfl (by omega) HZB.out ?_))
                  intro g1 cap1 w5 o1 gr1 n1 l1
                  have O1 := hid o1
                  have GR1 := hid gr1
                  have N1 := hid n1
                  have L1 := hid l1
                  have BL5 := hid (grown_bel T2.out.1 gr1 HZB.out)
                  have HZ5 : Hid (w.heap.size ≤ w5.heap.size) := hid (Nat.le_trans HZB.out BL5.out.size)
                  have OM := hid (T2.out.mid (k := k) (g := g1) (cap := cap1) gr1)
                  have O5 := hid (own_apart O4.out T23.out (Nat.le_refl _) gr1)
                  clear o1 gr1 n1 l1 d4
                  go_wp2_with (at_builtin; (refine wl_app1L rfl _ _ Tints rfl rfl OM.out rfl rfl rfl (by omega) HZ5.out ?_))
                  intro g2 cap2 w6 o2 gr2 n2 l2
                  have TT := hid (T2.out.app O1.out GR1.out N1.out L1.out o2 gr2 n2)
                  have O6 := hid (own_apart2 O5.out T23.out (Nat.le_refl _) gr2)
                  have BL6 := hid (BL5.out.trans (grown_bel OM.out gr2 HZ5.out))
                  clear o2 gr2 n2 l2
                  go_wp2_with fail
                  go_meet
                  exact ⟨i + 1, L.set q (true, k), P ++ [(k, (q : Int))], HK2, HM2, hid (Sl.of_own O6.out), hid (by rw [pk_snoc, pj_snoc]; exact TT.out), hid (HB.out.trans BL6.out)⟩
              · have HR := hid (Vt.add_there HK.out.1 (by rw [hf]; rfl))
                have t0 : ¬ (t : Int) < 0 := by omega
                clear hf hk2
                go_wp2_with fail
                refine (vadd_is S.out L 0 4 HR.out (by decide) (by decide)).mono ?_; rintro e w4 ⟨v4, rfl, s4_, b_⟩
                replace S := hid (S.out.call b_)
                replace T2 := hid (T2.out.call b_)
                replace HB := hid (Bl.call HB.out b_)
                have S4 := hid s4_
                clear s4_
                clear b_
                go_wp2_with fail
                go_meet
                exact ⟨i, L, P, HK, HM, S4, T2, HB⟩
          case rest =>
            clear HK HM S T2 HB HSA DA HX3
            obtain ⟨m2, L2, P2, K2, M2, S2, TT, HB2⟩ := hcut
            obtain ⟨E1, d1, hv1, hd1, -, -, hx1⟩ := TT.out.sl1
            obtain ⟨E2, d2, hv2, hd2, -, -, hx2⟩ := TT.out.sl2
            obtain ⟨E3, d3, hv3, hd3, -, -, -⟩ := S2.out
            subst hv1 hv2 hv3
            have HY1 := hid hx1
            have HY2 := hid hx2
            have hm2 : m2 ≤ 12 := by have h := K2.out.2.2.2.2.2; have h2 := Vt.cnt_le L2; have h3 := K2.out.2.1; have h4 := M2.out; omega
            clear hx1 hx2
            go_wp2_with fail
            go_loopw [126] (fun iv wr => ∃ i : Nat, iv = .int .i64 (i : Int) ∧ i ≤ m2 ∧ Hid (Below wc.heap.size wc wr)) (fun iv _ => m2 - (intOf iv).toNat)
            case atStart => exact ⟨0, rfl, Nat.zero_le _, hid (Below.refl _ _)⟩
            case round =>
              obtain ⟨i, rfl, hi, HBr⟩ := hrel
              by_cases him : i < m2
              case pos =>
                have i0 : (i : Int) < (m2 : Int) := by omega
                have hip : i < P2.length := by rw [M2.out]; exact him
                obtain ⟨b1, o1, rfl, hb1, hc1⟩ := HY1.out (by omega)
                obtain ⟨b2, o2, rfl, hb2, hc2⟩ := HY2.out (by omega)
                have r0 := uks_cell hc1 (k := i) (by rw [pk_len]; exact hip)
                rw [pk_at P2 hip] at r0
                have r1 := ints_cell hc2 (k := i) (by rw [pj_len]; exact hip)
                rw [pj_at P2 hip] at r1
                obtain ⟨q, hq1, hq2⟩ := Vt.kinv_in K2.out hip
                rw [hq1] at r1
                generalize P2[i].1 = x at *
                have HF1 : Hid ((fdP L2 x).getD 0 = (q : Int)) := hid (by rw [fd_ok K2.out.1, hq2]; rfl)
                have HF2 : Hid ((fdP L2 x).isSome = true) := hid (by rw [fd_ok K2.out.1, hq2]; rfl)
                have e0 := (HBr.out.cell (p := ⟨b1, o1 + i, none⟩) hb1).trans r0
                have R1 := hid r1
                have HB2b := hid hb2
                have x1 : ((q : Int) != (q : Int)) = false := by simp
                clear r0 r1 hc1 hc2 hb1 hb2 hq1 hq2 hip
                go_wp2_with fail
                refine (vfind_is (k := x) (S2.out.call HBr.out) (q : Int) true HF1.out HF2.out).mono ?_; rintro e w9 ⟨rfl, b9⟩
                have HB9 := hid (Bl.call HBr.out b9)
                have e1 := (HB9.out.cell (p := ⟨b2, o2 + i, none⟩) HB2b.out).trans R1.out
                clear b9 e0
                go_wp2_with fail
                go_roundw
                case rel => exact ⟨i + 1, by go_num, by omega, HB9⟩
                case measure => simp [intOf]; omega
              case neg =>
                obtain rfl : i = m2 := by omega
                have i0 : ¬ (i : Int) < (i : Int) := by omega
                have HKC : Hid ((ksP L2).length = i) := hid (by rw [ks_cnt K2.out.1, K2.out.2.2.2.2.2, M2.out])
                have HOK := hid (kd_yes K2.out.1)
                have x1 : ((i : Int) != (i : Int)) = false := by simp
                have x2 : ((s : Int) != (s : Int)) = false := by simp
                have S3 := hid (S2.out.call HBr.out)
                have T3 := hid (TT.out.call HBr.out)
                have HB := hid (Bl.call HB2.out HBr.out)
                go_wp2_with fail
                refine (vright_is S3.out true HOK.out).mono ?_; rintro e w1 ⟨rfl, b_⟩
                replace S3 := hid (S3.out.call b_)
                replace T3 := hid (T3.out.call b_)
                replace HB := hid (Bl.call HB.out b_)
                clear b_
                go_wp2_with fail
                refine (vkeys_is S3.out (ksP L2) i rfl HKC.out).mono ?_; rintro e w2 ⟨v9, rfl, s9_, b_⟩
                replace S3 := hid (S3.out.call b_)
                replace T3 := hid (T3.out.call b_)
                replace HB := hid (Bl.call HB.out b_)
                have S9 := hid s9_
                clear s9_
                clear b_
                obtain ⟨E9, d9, rfl, -⟩ := S9.out
                go_wp2_with fail
                go_roundw
                case rel => exact ⟨j + 1, i, L2, P2, by go_num, by omega, K2, M2, S3, T3, HB⟩
                case measure => simp [intOf]; omega
end Go.Proofs.Ytcbedngimgkcoaa
