/- MgVer: VerA to VerI, merged. -/
import Derived.Test.YtbafbnkmmpaomaaDicD
import Derived.Test.YtbafbnkmmpaomaaMgA
import Derived.Deep.Cut
import Derived.Deep.DeepCutAuto
/- Cells of slots; verts.sized, verts.New. -/
namespace Go.Proofs.Ytbafbnkmmpaomaa
open Go.RowKit
set_option linter.unusedVariables false
set_option linter.unusedSimpArgs false

def sls (l : List (Bool × Int)) : List Value := l.flatMap fun h => [.bool h.1, .int .u64 h.2]
theorem len_sls (l : List (Bool × Int)) : (sls l).length = l.length * 2 := by
  induction l with
  | nil => rfl
  | cons e l ih => simp [sls] at ih ⊢; omega
theorem sls_at (l : List (Bool × Int)) (k : Nat) (h : k < l.length) : (sls l)[k * 2]? = some (.bool l[k].1) ∧ (sls l)[k * 2 + 1]? = some (.int .u64 l[k].2) := by
  induction l generalizing k with
  | nil => simp at h
  | cons e l ih =>
    cases k with
    | zero => simp [sls]
    | succ k =>
      have := ih k (by simpa using h)
      simp only [sls, List.flatMap_cons, List.getElem_cons_succ] at this ⊢
      rw [show (k + 1) * 2 = (k * 2) + 2 by omega]
      exact this
theorem sls_app (p q : List (Bool × Int)) : sls p ++ sls q = sls (p ++ q) := by simp [sls]
theorem sls_one (l : List (Bool × Int)) : ∀ u ∈ sls l, u.oneCell' = true := by
  intro u hu
  obtain ⟨_, _, h⟩ := List.mem_flatMap.1 hu
  simp at h
  rcases h with rfl | rfl <;> rfl
theorem sls_cell {w : World} {b o : Nat} {l : List (Bool × Int)} (h : ∀ j u, (sls l)[j]? = some u → w.cell? ⟨b, o + j, none⟩ = some u) {k : Nat} (hk : k < l.length) :
    w.cell? ⟨b, o + k * 2, none⟩ = some (.bool l[k].1) ∧ w.cell? ⟨b, o + k * 2 + 1, none⟩ = some (.int .u64 l[k].2) := by
  have e := sls_at l k hk
  exact ⟨h _ _ e.1, by rw [Nat.add_assoc]; exact h _ _ e.2⟩
theorem vsized_yes {n : Int} (h : 1 ≤ n ∧ n ≤ 1024) (w : World) : Calls Try.prog 59 #[.int .i64 n] w fun e w' => e = .returned (.bool true) ∧ w = w' := by
  obtain ⟨h1, h2⟩ := h
  go_enter Try.func59, Try.ntmps59
  go_wp2
  go_ret
  exact ⟨ret_bool (by first | (simp; done) | (simp; omega)), rfl⟩
theorem vsized_no {n : Int} (h : ¬ (1 ≤ n ∧ n ≤ 1024)) (w : World) : Calls Try.prog 59 #[.int .i64 n] w fun e w' => e = .returned (.bool false) ∧ w = w' := by
  by_cases h1 : 1 ≤ n
  · have h2 : ¬ n ≤ 1024 := by omega
    clear h
    go_enter Try.func59, Try.ntmps59
    go_wp2
    go_ret
    exact ⟨ret_bool (by first | (simp; done) | (simp; omega)), rfl⟩
  · clear h
    go_enter Try.func59, Try.ntmps59
    go_wp2
    go_ret
    exact ⟨ret_bool (by first | (simp; done) | (simp; omega)), rfl⟩
theorem Tsls : SlT 28 63 (.agg #[.bool false, .int .u64 0]) 2 16 := SlT.mk Try.underlying28 (by kernel_rfl) rfl (by decide) (by decide)
end Go.Proofs.Ytbafbnkmmpaomaa

/- make of slots; verts.New. -/
namespace Go.Proofs.Ytbafbnkmmpaomaa
open Go.RowKit
set_option linter.unusedVariables false
set_option linter.unusedSimpArgs false
theorem sls_zero (n : Nat) : sls (List.replicate (n + 1) (false, 0)) = [.bool false, .int .u64 0] ++ sls (List.replicate n (false, 0)) := by simp [sls, List.replicate_succ]
theorem len_vnew (n : Nat) : (sls (List.replicate n (false, 0))).length = n * 2 := by rw [len_sls]; simp
theorem made_sls (n : Nat) : madeCells #[.bool false, .int .u64 0] (n * 2) = (sls (List.replicate n (false, 0))).toArray := by
  apply Array.ext
  · simp [madeCells, len_sls]
  · intro i h1 h2
    have hi : i < n * 2 := by simpa [madeCells] using h1
    have e := sls_at (List.replicate n (false, 0)) (i / 2) (by simp; omega)
    rw [List.getElem_replicate] at e
    have h2' : i < (sls (List.replicate n (false, 0))).length := by simpa using h2
    have g : (sls (List.replicate n (false, 0)))[i]? = some ((sls (List.replicate n (false, 0)))[i]) := List.getElem?_eq_getElem h2'
    rcases Nat.mod_two_eq_zero_or_one i with h | h
    · rw [show i / 2 * 2 = i by omega, g] at e
      have := Option.some.inj e.1
      simp [madeCells, h, this]
    · rw [show i / 2 * 2 + 1 = i by omega, g] at e
      have := Option.some.inj e.2
      simp [madeCells, h, this]
theorem run_make_sls (n : Nat) (h : n ≤ 1000000) (w : World) :
    (Instr.makeSlice 28 (.int .i64 (n : Int)) (.int .i64 (n : Int))).run Try.prog w = .ok (.slice (some ⟨w.heap.size, 0, none⟩) n n) (w.alloc (.cells (sls (List.replicate n (false, 0))).toArray 63)) := by
  obtain ⟨hu, ⟨i, hi, hz, hsz, hby⟩, hzs, h0, h0b⟩ := Tsls
  have hr := run_make (P := Try.prog) w 28 63 i (.agg #[.bool false, .int .u64 0]) hu hi hz .i64 .i64 n n (by omega) (by omega) (by rw [hby]; omega) (by omega)
  rw [hr, hsz]
  have e : madeCells (Value.agg #[.bool false, .int .u64 0]).cells ((n : Int).toNat * 2) = (sls (List.replicate n (false, 0))).toArray := by
    rw [← made_sls]
    rfl
  rw [e]
  simp
def VNewPost (n : Nat) (w : World) (e : Ending) (w' : World) : Prop := ∃ v, e = .returned (.tuple #[v, .int .i64 0]) ∧ Sl w' w'.heap.size 2 v n (sls (List.replicate n (false, 0))) ∧ Below w.heap.size w w'
end Go.Proofs.Ytbafbnkmmpaomaa

/- Contract of verts.keyed. -/
namespace Go.Proofs.Ytbafbnkmmpaomaa
open Go.RowKit
set_option linter.unusedVariables false
set_option linter.unusedSimpArgs false
theorem IsD.other {w : World} {K : Nat} {T : TypeId} {u : Value} {v : Option Addr} {l : List (Int × Int)} (h : IsD w v l) (hb : Blk w K T [u]) (u' : Value) : IsD (w.setCell ⟨K, 0, none⟩ u') v l := by
  obtain ⟨t, h1, h2, h3, h4⟩ := h
  refine ⟨t, ?_, h2, h3, h4⟩
  have := h1.other hb u'
  simpa [World.setCell] using this
def kd (l : List (Bool × Int)) : Option (List (Int × Int)) := if 1 ≤ l.length ∧ l.length ≤ 1024 then Vt.keyed l else none
def KeyedPost (l : List (Bool × Int)) (w : World) (e : Ending) (w' : World) : Prop := ∃ pt, e = .returned (.tuple #[.agg #[.pointer pt], .bool (kd l).isSome]) ∧ IsD w' pt ((kd l).getD []) ∧ Below w.heap.size w w'
theorem keyed_any {v : Value} {n : Nat} {l : List (Bool × Int)} {w : World} (hl : Sl w w.heap.size 2 v n (sls l)) :
    Calls Try.prog 48 #[v] w (KeyedPost l w) := by
  have hll : l.length = n := by have := hl.len; rw [len_sls] at this; omega
  have HLN := hid hll
  have HLw := hid hl
  obtain ⟨A, c, rfl, hnc, hcm, _, hx⟩ := hl
  have HX := hid hx
  have hmi : (n : Int) ≤ 9223372036854775807 := by unfold maxLen at hcm; omega
  clear hx hll hcm hnc
  have HB : Hid (Below w.heap.size w w) := hid (Below.refl _ _)
  have Z_r : Hid (IsD w none []) := hid (IsD.none_ _)
  have Z_d : Hid (IsD w none []) := hid (IsD.none_ _)
  obtain ⟨w1, hw⟩ : ∃ w1, w1 = w.alloc (.cells #[.pointer none] 86) := ⟨_, rfl⟩
  obtain ⟨Kr, hK⟩ : ∃ Kr, Kr = w.heap.size := ⟨_, rfl⟩
  have b : Below w.heap.size w w1 := by rw [hw]; exact bel_new _ _
  have D_r' : Hid (Blk w1 Kr 86 [.pointer none]) := hid (by rw [hw, hK]; exact Blk.new w _ [.pointer none])
  have I_r' := hid (Z_r.out.call b)
  have LO_r : Hid (w.heap.size ≤ Kr) := hid (by rw [hK]; exact HB.out.size)
  replace HLw := hid (HLw.out.call b)
  replace Z_d := hid (Z_d.out.call b)
  replace HB := hid (Bl.call HB.out b)
  have D_r := D_r'
  have I_r := I_r'
  have HW1 := hid hw
  have HK1 := hid hK
  clear b hw hK D_r' I_r' Z_r
  obtain ⟨w2, hw⟩ : ∃ w2, w2 = w1.alloc (.cells #[.pointer none] 86) := ⟨_, rfl⟩
  obtain ⟨Kd, hK⟩ : ∃ Kd, Kd = w1.heap.size := ⟨_, rfl⟩
  have b : Below w1.heap.size w1 w2 := by rw [hw]; exact bel_new _ _
  have D_d' : Hid (Blk w2 Kd 86 [.pointer none]) := hid (by rw [hw, hK]; exact Blk.new w1 _ [.pointer none])
  have I_d' := hid (Z_d.out.call b)
  have LO_d : Hid (w.heap.size ≤ Kd) := hid (by rw [hK]; exact HB.out.size)
  have NErd : Hid (Kr ≠ Kd) := hid (by have := D_r.out.lt; omega)
  have NEdr : Hid (Kd ≠ Kr) := hid (by have := D_r.out.lt; omega)
  replace D_r := hid (D_r.out.below b D_r.out.lt)
  replace I_r := hid (I_r.out.call b)
  replace HLw := hid (HLw.out.call b)
  replace HB := hid (Bl.call HB.out b)
  have D_d := D_d'
  have I_d := I_d'
  have HW2 := hid hw
  have HK2 := hid hK
  clear b hw hK D_d' I_d' Z_d
  go_enter Try.func48, Try.ntmps48
  go_upto_region 2 with (fail)
  have HKQ : Hid (Kd = Kr + 1) := hid (by rw [HK2.out, HW1.out, HK1.out]; simp)
  rw [← HW1.out, ← HK1.out, ← HW2.out, ← HKQ.out]
  have c_r : w2.cell? ⟨Kr, 0, none⟩ = some (.pointer none) := D_r.out.cell 0
  have f_r : w2.frozen? ⟨Kr, 0, none⟩ = false := D_r.out.frozen 0
  have c_d : w2.cell? ⟨Kd, 0, none⟩ = some (.pointer none) := D_d.out.cell 0
  have f_d : w2.frozen? ⟨Kd, 0, none⟩ = false := D_d.out.frozen 0
  by_cases hz : 1 ≤ n ∧ n ≤ 1024
  case neg =>
    have hk : Hid (kd l = none) := hid (by unfold kd; rw [if_neg (by rw [HLN.out]; exact hz)])
    have HZ : Hid (¬ (1 ≤ (n : Int) ∧ (n : Int) ≤ 1024)) := hid (by omega)
    clear hz c_r f_r c_d f_d
    go_wp2_with fail
    refine (vsized_no HZ.out _).mono ?_; rintro e w' ⟨rfl, rfl⟩
    have c_r := D_r.out.cell 0
    have f_r := D_r.out.frozen 0
    have c_d := D_d.out.cell 0
    go_wp2
    exact bodyPost_ret (v := .tuple #[.agg #[.pointer none], .bool false]) (by simp [results, Try.results48, go_sem, c_r]) rfl ⟨none, by rw [hk.out]; rfl, by rw [hk.out]; exact ((I_d.out.other D_r.out (.pointer none))), HB.out.setCell (p := ⟨Kr, 0, none⟩) LO_r.out _⟩
  case pos =>
    have hk : Hid (kd l = Vt.keyed l) := hid (by unfold kd; rw [if_pos (by rw [HLN.out]; exact hz)])
    have HZ : Hid (1 ≤ (n : Int) ∧ (n : Int) ≤ 1024) := hid (by omega)
    have hn2 : n ≤ 1024 := hz.2
    clear hz c_r f_r c_d f_d
    go_wp2_with fail
    refine (vsized_yes HZ.out _).mono ?_; rintro e w' ⟨rfl, rfl⟩
    go_wp2_with fail
    go_loopw [16] (fun iv wr => ∃ (j : Nat) (pt : Option Addr) (d : List (Int × Int)), iv = .int .i64 (j : Int) ∧ j ≤ n ∧ Hid (Vt.keyed (l.take j) = some d) ∧ Hid (Blk wr Kr 86 [.pointer none]) ∧ Hid (Blk wr Kd 86 [.pointer pt]) ∧ Hid (IsD wr pt d) ∧ Hid (Below w.heap.size w wr)) (fun iv _ => n - (intOf iv).toNat)
    case atStart => exact ⟨0, none, [], rfl, Nat.zero_le _, hid rfl, D_r, D_d, I_d, HB⟩
    case round =>
      clear D_r D_d I_d HB
      obtain ⟨j, pt, d, rfl, hj, HKD, D_r, D_d, I_d, HB⟩ := hrel
      by_cases hlt : j < n
      · have hji : (j : Int) < (n : Int) := by omega
        have hkl : j < l.length := by rw [HLN.out]; exact hlt
        obtain ⟨b, o, rfl, hbb, hc⟩ := HX.out (by omega)
        obtain ⟨q0, q1⟩ := sls_cell hc hkl
        have c0 := (HB.out.cell (p := ⟨b, o + j * 2, none⟩) hbb).trans q0
        have c1 := (HB.out.cell (p := ⟨b, o + j * 2 + 1, none⟩) hbb).trans q1
        have hst := Vt.keyed_take l j hkl
        rw [HKD.out] at hst
        have HLEN : Hid (d.length ≤ 100000) := hid (by rcases Vt.keyed_cases (l.take j) with ⟨d', h1, h2, _⟩ | ⟨h1, _⟩; (· rw [HKD.out] at h1; cases h1; have := h2.2.1; rw [List.length_take] at this; omega); (· rw [HKD.out] at h1; cases h1))
        generalize l[j] = s at *
        obtain ⟨u, k⟩ := s
        have HST := hid hst
        clear hst q0 q1 hc
        cases u with
        | false =>
          by_cases hk0 : k = 0
          · subst hk0
            have HN := hid (bel_new wr (.cells #[.bool false, .int .u64 0] 63))
            go_wp2
            go_roundw
            case rel => exact ⟨j + 1, pt, d, by go_num, by omega, hid (by rw [HST.out]; rfl), hid (D_r.out.below HN.out D_r.out.lt), hid (D_d.out.below HN.out D_d.out.lt), hid (I_d.out.call HN.out), hid (Bl.call HB.out HN.out)⟩
            case measure => simp [intOf]; omega
          · have hkb : (k != 0) = true := by simp [hk0]
            have hkk : Hid (kd l = none) := hid (by rw [hk.out]; exact Vt.keyed_none l (j + 1) (by rw [HST.out]; simp [Vt.kstep, hk0]))
            have HN := hid (bel_new wr (.cells #[.bool false, .int .u64 k] 63))
            have D2 := hid (D_r.out.below HN.out D_r.out.lt)
            have c_r := D2.out.cell 0
            have f_r := D2.out.frozen 0
            go_wp2
            exact bodyPost_ret (v := .tuple #[.agg #[.pointer none], .bool false]) (by simp [results, Try.results48, go_sem, c_r]) rfl ⟨none, by rw [hkk.out]; rfl, by rw [hkk.out]; exact IsD.none_ _, (Bl.call HB.out HN.out).setCell (p := ⟨Kr, 0, none⟩) LO_r.out _⟩
        | true =>
          have HN := hid (bel_new wr (.cells #[.bool true, .int .u64 k] 63))
          have D2 := hid (D_d.out.below HN.out D_d.out.lt)
          have c_d := D2.out.cell 0
          go_wp2_with fail
          refine (get_any (k := k) (I_d.out.call HN.out) HLEN.out).mono ?_; rintro e w5 ⟨rfl, b5⟩
          have SB := hid ((Blk.new wr 63 [.bool true, .int .u64 k]).below b5 (by simp))
          have HB5 := hid (Bl.call (Bl.call HB.out HN.out) b5)
          have D5r := hid ((D_r.out.below HN.out D_r.out.lt).below b5 (D_r.out.below HN.out D_r.out.lt).lt)
          have D5d := hid (D2.out.below b5 D2.out.lt)
          have I5 := hid ((I_d.out.call HN.out).call b5)
          clear c_d b5 c0 c1 D2
          cases hg : Dc.get d k with
          | some m =>
            have hkk : Hid (kd l = none) := hid (by rw [hk.out]; exact Vt.keyed_none l (j + 1) (by rw [HST.out]; simp [Vt.kstep, hg]))
            have c_r := D5r.out.cell 0
            have f_r := D5r.out.frozen 0
            go_wp2
            exact bodyPost_ret (v := .tuple #[.agg #[.pointer none], .bool false]) (by simp [results, Try.results48, go_sem, c_r]) rfl ⟨none, by rw [hkk.out]; rfl, by rw [hkk.out]; exact IsD.none_ _, HB5.out.setCell (p := ⟨Kr, 0, none⟩) LO_r.out _⟩
          | none =>
            have HG := hid hg
            clear hg
            have c_d := D5d.out.cell 0
            have s_1 := SB.out.cell 1
            go_wp2_with fail
            refine (put_any (k := k) (n := (j : Int)) I5.out HLEN.out).mono ?_; rintro e w6 ⟨v6, rfl, i6, b6⟩
            have D6r := hid (D5r.out.below b6 D5r.out.lt)
            have D6d := hid (D5d.out.below b6 D5d.out.lt)
            have I6 := hid i6
            have HB6 := hid (Bl.call HB5.out b6)
            clear i6 b6 c_d s_1
            have c_d := D6d.out.cell 0
            have f_d := D6d.out.frozen 0
            go_wp2
            go_roundw
            case rel => exact ⟨j + 1, v6, Dc.put d k (j : Int), by go_num, by omega, hid (by rw [HST.out]; simp [Vt.kstep, HG.out]), hid (D6r.out.far NErd.out _), hid (D6d.out.put 0 _), hid (I6.out.other D6d.out (.pointer v6)), hid (HB6.out.setCell (p := ⟨Kd, 0, none⟩) LO_d.out _)⟩
            case measure => simp [intOf]; omega
      · obtain rfl : j = n := by omega
        have hji : ¬ (j : Int) < (j : Int) := by omega
        have hkk : Hid (kd l = some d) := hid (by rw [hk.out, ← HKD.out, List.take_of_length_le (by rw [HLN.out]; exact Nat.le_refl _)])
        have c_r := D_r.out.cell 0
        have f_r := D_r.out.frozen 0
        have c_d := D_d.out.cell 0
        go_wp2
        exact bodyPost_ret (v := .tuple #[.agg #[.pointer pt], .bool true]) (by simp [results, Try.results48, go_sem, c_r]) rfl ⟨pt, by rw [hkk.out]; rfl, by rw [hkk.out]; exact ((I_d.out.other D_r.out (.pointer pt))), HB.out.setCell (p := ⟨Kr, 0, none⟩) LO_r.out _⟩
end Go.Proofs.Ytbafbnkmmpaomaa

/- Contracts of verts.Right, verts.Find. -/
namespace Go.Proofs.Ytbafbnkmmpaomaa
open Go.RowKit
set_option linter.unusedVariables false
set_option linter.unusedSimpArgs false
theorem kd_len {l : List (Bool × Int)} : ((kd l).getD []).length ≤ 100000 := by
  unfold kd
  split
  · rename_i h
    rcases Vt.keyed_cases l with ⟨d, h1, h2, _⟩ | ⟨h1, _⟩
    · rw [h1]; have := h2.2.1; simp; omega
    · rw [h1]; simp
  · simp
theorem vright_is {v : Value} {n : Nat} {l : List (Bool × Int)} {w : World} (hl : Sl w w.heap.size 2 v n (sls l)) (b : Bool) (hb : (kd l).isSome = b) :
    Calls Try.prog 32 #[v] w fun e w' => e = .returned (.bool b) ∧ Below w.heap.size w w' := by
  have HL := hid hl
  have HB := hid hb
  clear hl hb
  go_enter Try.func32, Try.ntmps32
  go_wp2_with fail
  refine (keyed_any HL.out).mono ?_; rintro e w1 ⟨pt, rfl, i1, b1⟩
  rw [HB.out]
  have BB := hid (Bl.new b1 (.cells #[.pointer pt] 86))
  clear i1 b1
  go_wp2
  go_ret
  exact ⟨rfl, BB.out⟩
/-- The vertex of a key. -/
def fdP (l : List (Bool × Int)) (k : Int) : Option Int := (kd l).bind fun d => Dc.get d k
end Go.Proofs.Ytbafbnkmmpaomaa

/- Keys: cells; contract of raftsmanref05.Same; verts.Keys. -/
namespace Go.Proofs.Ytbafbnkmmpaomaa
open Go.RowKit
set_option linter.unusedVariables false
set_option linter.unusedSimpArgs false

section
variable {ops : Array Oper} {rest : List Oper} {o : Oper} {a : Act} {Q : Exit → Act → World → Prop} {w : World}
theorem wl_app1H (hw : Region.wanted o (yielded ops a.tmps) = true) (s x : Operand) {t e : TypeId} {z : Value} {sz by_ : Nat} (hT : SlT t e z sz by_) (hop : o.op = .call { callee := .builtin .append, args := #[s, x], argTypes := #[t, t] })
    {base : Nat} {v : Value} {n : Nat} {xs : List Value} {news : List Value} {e' : TypeId} (hs : a.eval s = v) (hown : w.ownsRow base e sz v n xs) {H : Nat} (hx : a.eval x = .slice (some ⟨H, 0, none⟩) 1 1) (hH : w.heap.size = H)
    (hl : news.length = sz) (h1 : ∀ u ∈ news, u.oneCell' = true) (hb : (n + 1) * by_ ≤ 140737488355328) (hbase : base ≤ w.heap.size)
    (h : ∀ v' w', w'.ownsRow base e sz v' (n + 1) (xs ++ news) → Below base w w' → wpList Try.prog ops Q rest (a.put o.dst v') w') : wpList Try.prog ops Q (o :: rest) a (w.alloc (.cells news.toArray e')) := by
  subst hH
  exact wl_app1 hw s x hT hop hs hown hx hl h1 hb hbase h
end
/-- The cells of keys. -/
def uks (l : List Int) : List Value := l.map (Value.int .u64)
theorem len_uks (l : List Int) : (uks l).length = l.length := by simp [uks]
theorem uks_at (l : List Int) (k : Nat) (h : k < l.length) : (uks l)[k]? = some (.int .u64 (l.getD k 0)) := by simp [uks, h, List.getD]
theorem uks_app (p q : List Int) : uks p ++ uks q = uks (p ++ q) := by simp [uks]
theorem uks_one (l : List Int) : ∀ u ∈ uks l, u.oneCell' = true := by
  intro u hu
  obtain ⟨_, _, rfl⟩ := List.mem_map.1 hu
  rfl
theorem uks_cell {w : World} {b o : Nat} {l : List Int} (h : ∀ j u, (uks l)[j]? = some u → w.cell? ⟨b, o + j, none⟩ = some u) {k : Nat} (hk : k < l.length) : w.cell? ⟨b, o + k, none⟩ = some (.int .u64 (l.getD k 0)) :=
  h k _ (uks_at l k hk)
def uksameB (p q : List Int) : Bool := p == q
def ksP (l : List (Bool × Int)) : List Int := ((kd l).getD []).map (·.1)
def KsPost (w : World) (l : List Int) (n : Nat) (e : Ending) (w' : World) : Prop := ∃ v, e = .returned v ∧ Sl w' w'.heap.size 1 v n (uks l) ∧ Below w.heap.size w w'
def tks (d : List (Int × Int)) (j : Nat) : List Int := (d.take j).map (·.1)
theorem tks_all (d : List (Int × Int)) (j : Nat) (h : d.length = j) : tks d j = d.map (·.1) := by unfold tks; rw [List.take_of_length_le (by omega)]
theorem keys_take (d : List (Int × Int)) (j : Nat) (h : j < d.length) : uks (tks d j) ++ uks [d[j].1] = uks (tks d (j + 1)) := by
  unfold tks
  rw [uks_app, List.take_succ_eq_append_getElem h, List.map_append]; rfl
end Go.Proofs.Ytbafbnkmmpaomaa

/- Contracts of slices.IndexFunc and slices.Clone of slots. -/
namespace Go.Proofs.Ytbafbnkmmpaomaa
open Go.RowKit
set_option linter.unusedVariables false
set_option linter.unusedSimpArgs false

theorem kd_cases (l : List (Bool × Int)) : (∃ d, kd l = some d ∧ Vt.Of l d ∧ Vt.Ok l) ∨ (kd l = none ∧ ¬ Vt.Ok l) := by
  unfold kd
  by_cases h : 1 ≤ l.length ∧ l.length ≤ 1024
  · rw [if_pos h]
    rcases Vt.keyed_cases l with ⟨d, h1, h2, h3⟩ | ⟨h1, h2⟩
    · exact .inl ⟨d, h1, h2, h.1, h.2, h3⟩
    · exact .inr ⟨h1, fun h' => h2 h'.2.2⟩
  · rw [if_neg h]
    exact .inr ⟨rfl, fun h' => h ⟨h'.1, h'.2.1⟩⟩
theorem kd_ok {l : List (Bool × Int)} (h : Vt.Ok l) : ∃ d, kd l = some d ∧ Vt.Of l d := by
  rcases kd_cases l with ⟨d, h1, h2, _⟩ | ⟨_, h2⟩
  · exact ⟨d, h1, h2⟩
  · exact absurd h h2
theorem kd_bad {l : List (Bool × Int)} (h : ¬ Vt.Ok l) : kd l = none := by
  rcases kd_cases l with ⟨d, _, _, h2⟩ | ⟨h1, _⟩
  · exact absurd h2 h
  · exact h1
theorem fd_ok {l : List (Bool × Int)} (h : Vt.Ok l) (k : Int) : fdP l k = (Vt.fn l k).map fun i : Nat => (i : Int) := by
  obtain ⟨d, h1, h2⟩ := kd_ok h
  unfold fdP; rw [h1]; exact Vt.get_fn h2 h.2.2 k
def ffZ (l : List (Bool × Int)) : Int := match Vt.ff l with | none => -1 | some i => (i : Int)
end Go.Proofs.Ytbafbnkmmpaomaa

/- Contracts of verts.Add, verts.Remove. -/
namespace Go.Proofs.Ytbafbnkmmpaomaa
open Go.RowKit
set_option linter.unusedVariables false
set_option linter.unusedSimpArgs false

theorem sls_set (l : List (Bool × Int)) (j : Nat) (u : Bool) (k : Int) : ((sls l).set (j * 2) (.bool u)).set (j * 2 + 1) (.int .u64 k) = sls (l.set j (u, k)) := by
  induction l generalizing j with
  | nil => simp [sls]
  | cons e l ih =>
    cases j with
    | zero => simp [sls]
    | succ j =>
      have := ih j
      simp only [sls, List.flatMap_cons, List.set_cons_succ] at this ⊢
      rw [← this, show (j + 1) * 2 = (j * 2) + 2 by omega]
      rfl
/-- The store of a slot. -/
theorem own_slot {w : World} {base g n c : Nat} {l : List (Bool × Int)} (h : w.ownsRow base 63 2 (.slice (some ⟨g, 0, none⟩) n c) n (sls l)) (j : Nat) (u : Bool) (k : Int) :
    ((w.setCell ⟨g, j * 2, none⟩ (.bool u)).setCell ⟨g, j * 2 + 1, none⟩ (.int .u64 k)).ownsRow base 63 2 (.slice (some ⟨g, 0, none⟩) n c) n (sls (l.set j (u, k))) := by
  have := ((h.stored (j * 2) (.bool u)).1.stored (j * 2 + 1) (.int .u64 k)).1
  rwa [sls_set] at this
theorem own_cells {w : World} {base g n c : Nat} {l : List (Bool × Int)} (h : w.ownsRow base 63 2 (.slice (some ⟨g, 0, none⟩) n c) n (sls l)) {j : Nat} (hj : j < l.length) :
    w.cell? ⟨g, j * 2, none⟩ = some (.bool l[j].1) ∧ w.cell? ⟨g, j * 2 + 1, none⟩ = some (.int .u64 l[j].2) ∧ w.frozen? ⟨g, j * 2, none⟩ = false ∧ w.frozen? ⟨g, j * 2 + 1, none⟩ = false := by
  have hn : l.length = n := by have := h.1; rw [len_sls] at this; omega
  have e := sls_at l j hj
  exact ⟨by rw [h.cellAt (j * 2) (by omega)]; exact e.1, by rw [h.cellAt (j * 2 + 1) (by omega)]; exact e.2, h.frozenAt _, h.frozenAt _⟩
def AddPost (w : World) (n : Nat) (l : List (Bool × Int)) (z1 z2 : Int) (e : Ending) (w' : World) : Prop := ∃ v, e = .returned (.tuple #[v, .int .i64 z1, .int .i64 z2]) ∧ Sl w' w'.heap.size 2 v n (sls l) ∧ Below w.heap.size w w'
def RemPost (w : World) (n : Nat) (l : List (Bool × Int)) (z2 : Int) (e : Ending) (w' : World) : Prop := ∃ v, e = .returned (.tuple #[v, .int .i64 z2]) ∧ Sl w' w'.heap.size 2 v n (sls l) ∧ Below w.heap.size w w'
end Go.Proofs.Ytbafbnkmmpaomaa

/- Contracts of Refs, of the document's Same, Right, Find. -/
namespace Go.Proofs.Ytbafbnkmmpaomaa
open Go.RowKit
set_option linter.unusedVariables false
set_option linter.unusedSimpArgs false
attribute [local go_sem ↓] Go.wp_at_zero Go.wp_at_succ

theorem Trefs : SlT 37 67 (.agg #[.bool false, .int .u64 0]) 2 16 := SlT.mk Try.underlying37 (by kernel_rfl) rfl (by decide) (by decide)
def RefsPost (w : World) (n : Nat) (l : List (Bool × Int)) (e : Ending) (w' : World) : Prop := ∃ v, e = .returned v ∧ Sl w' w'.heap.size 2 v n (sls l) ∧ Below w.heap.size w w'
theorem sls_snoc (l : List (Bool × Int)) (m : Nat) (h : m < l.length) : sls (l.take m) ++ sls [l[m]] = sls (l.take (m + 1)) := by
  rw [sls_app, ← List.take_succ_eq_append_getElem h]
theorem src_lit (w : World) (x : Bool × Int) : Sl ((w.alloc (.cells #[.bool x.1, .int .u64 x.2] 63)).alloc (.cells #[.bool x.1, .int .u64 x.2] 67)) ((w.alloc (.cells #[.bool x.1, .int .u64 x.2] 63)).alloc (.cells #[.bool x.1, .int .u64 x.2] 67)).heap.size 2 (.slice (some ⟨w.heap.size + 1, 0, none⟩) 1 1) 1 (sls [x]) := by
  have := (Blk.new (w.alloc (.cells #[.bool x.1, .int .u64 x.2] 63)) 67 (sls [x])).sl (B := ((w.alloc (.cells #[.bool x.1, .int .u64 x.2] 63)).alloc (.cells #[.bool x.1, .int .u64 x.2] 67)).heap.size) (sz := 2) (n := 1) (c := 1) (by simp) (Nat.le_refl _) (by decide) (by rw [len_sls]; rfl)
  have e : (w.alloc (.cells #[.bool x.1, .int .u64 x.2] 63)).heap.size = w.heap.size + 1 := by simp
  rw [e] at this
  exact this
set_option maxRecDepth 100000 in
set_option maxHeartbeats 4000000 in
theorem refs_any {v : Value} {n : Nat} {l : List (Bool × Int)} {w : World} (hs : Sl w w.heap.size 2 v n (sls l)) (hn : n ≤ 100000) :
    Calls Try.prog 30 #[v] w (RefsPost w n l) := by
  have hl : l.length = n := by have := hs.len; rw [len_sls] at this; omega
  obtain ⟨A, c, rfl, hnc, hcm, hll, hx⟩ := hs
  have HX := hid hx
  have HL := hid hl
  clear hx hll hl
  go_enter Try.func30, Try.ntmps30
  go_wp2_with fail
  go_loopw [3, 5, 8] (fun o _ i wr => ∃ m : Nat, m ≤ n ∧ i = .int .i64 (m : Int) ∧ wr.ownsRow w.heap.size 67 2 o m (sls (l.take m)) ∧ Below w.heap.size w wr) (fun _ _ i _ => n - (intOf i).toNat)
  case atStart => exact ⟨0, Nat.zero_le _, rfl, World.ownsRow_nil _ _ _ _, Below.refl _ _⟩
  case round =>
    obtain ⟨m, hm, rfl, hown, hbel⟩ := hrel
    have hsz := hbel.size
    by_cases hlt : m < n
    · have e1 : (m : Int) < (n : Int) := by omega
      obtain ⟨b, o, rfl, hb, hc⟩ := HX.out (by omega)
      have hml : m < l.length := by rw [HL.out]; exact hlt
      have hq := sls_cell hc hml
      have HP := hid (sls_snoc l m hml)
      obtain ⟨x, hx⟩ : ∃ x, x = l[m] := ⟨_, rfl⟩
      rw [← hx] at hq HP
      have q0 := cell_later hbel hq.1
      have q1 := cell_later hbel hq.2
      clear hx hml hq hc
      have HSRC := hid (src_lit wr x)
      have hz2 : w.heap.size ≤ ((wr.alloc (.cells #[.bool x.1, .int .u64 x.2] 63)).alloc (.cells #[.bool x.1, .int .u64 x.2] 67)).heap.size := by simp; omega
      have hby : (m + 1) * 16 ≤ 140737488355328 := by omega
      go_wp2_with (at_builtin; refine wl_app rfl _ _ Trefs rfl rfl ((hown.alloc _).alloc _) rfl HSRC.out (sls_one _) hby hz2 ?_)
      intro v' w' hown' hbel'
      clear q0 q1
      go_wp2
      go_roundw
      case rel =>
        refine ⟨m + 1, by omega, by go_num, ?_, ((hbel.alloc hsz _).alloc (by simp; omega) _).trans hbel'⟩
        rw [← HP.out]
        exact hown'
      case measure => simp [intOf]; omega
    · have e1 : ¬ (m : Int) < (n : Int) := by omega
      obtain rfl : m = n := by omega
      have hL := hid (Sl.of_own hown)
      have hB := hid hbel
      clear hown hbel
      go_wp2
      go_ret
      exact ⟨_, rfl, by have := hL.out; rwa [List.take_of_length_le (by rw [HL.out]; exact Nat.le_refl _)] at this, hB.out⟩
set_option maxRecDepth 100000 in
set_option maxHeartbeats 4000000 in
theorem rsame_is (v v' : Value) (n n' B B' : Nat) (p q : List (Bool × Int)) (w : World) (r : Bool) (hr : (p == q) = r) (hs : Sl w B 2 v n (sls p)) (hs' : Sl w B' 2 v' n' (sls q)) :
    Calls Try.prog 38 #[v, v'] w fun e w' => e = .returned (.bool r) ∧ Qt w w' := by
  have hn : p.length = n := by have := hs.len; rw [len_sls] at this; omega
  have hn' : q.length = n' := by have := hs'.len; rw [len_sls] at this; omega
  obtain ⟨A, c, rfl, hnc, hcm, hl, hx⟩ := hs
  obtain ⟨A', c', rfl, hnc', hcm', hl', hx'⟩ := hs'
  have HX := hid hx
  have HX' := hid hx'
  have HN := hid hn
  have HN' := hid hn'
  have HR := hid hr
  clear hx hx' hl hl' hn hn' hr
  have hm : n ≤ 9223372036854775807 := by unfold maxLen at hcm; omega
  have hm' : n' ≤ 9223372036854775807 := by unfold maxLen at hcm'; omega
  clear hcm hcm'
  by_cases hlen : n = n'
  · subst hlen
    have e0 : ((n : Int) != (n : Int)) = false := by simp
    go_enter Try.func38, Try.ntmps38
    go_wp2
    go_loopw [5] (fun i wr => ∃ k : Nat, k ≤ n ∧ i = .int .i64 (k : Int) ∧ Hid (p.take k = q.take k) ∧ Qt w wr) (fun i _ => n - (intOf i).toNat)
    case atStart => exact ⟨0, Nat.zero_le _, rfl, hid rfl, Qt.refl _⟩
    case round =>
      obtain ⟨k, hk, rfl, hall, hq⟩ := hrel
      by_cases hlt : k < n
      · obtain ⟨b, o, rfl, hb, hc⟩ := HX.out (by omega)
        obtain ⟨b', o', rfl, hb', hc'⟩ := HX'.out (by omega)
        have kp : k < p.length := by rw [HN.out]; exact hlt
        have kq : k < q.length := by rw [HN'.out]; exact hlt
        have c1 := sls_cell hc kp
        have c2 := sls_cell hc' kq
        have HT1 := hid (List.take_succ_eq_append_getElem kp)
        have HT2 := hid (List.take_succ_eq_append_getElem kq)
        have HG1 := hid (List.getElem?_eq_getElem kp)
        have HG2 := hid (List.getElem?_eq_getElem kq)
        obtain ⟨x, hgx⟩ : ∃ x, x = p[k] := ⟨_, rfl⟩
        obtain ⟨y, hgy⟩ : ∃ y, y = q[k] := ⟨_, rfl⟩
        rw [← hgx] at c1 HT1 HG1
        rw [← hgy] at c2 HT2 HG2
        obtain ⟨x1, x2⟩ := x
        obtain ⟨y1, y2⟩ := y
        have d1 := (hq.cell ⟨b, o + k * 2, none⟩).trans c1.1
        have d2 := (hq.cell ⟨b, o + k * 2 + 1, none⟩).trans c1.2
        have d3 := (hq.cell ⟨b', o' + k * 2, none⟩).trans c2.1
        have d4 := (hq.cell ⟨b', o' + k * 2 + 1, none⟩).trans c2.2
        dsimp only at d1 d2 d3 d4
        have i1 : (k : Int) < (n : Int) := by omega
        have i0 : (0 : Int) ≤ (k : Int) := by omega
        clear hc hc' hgx hgy c1 c2 kp kq
        by_cases he : x1 = y1 ∧ x2 = y2
        · obtain ⟨rfl, rfl⟩ := he
          go_wp2_with fail
          go_quiet (fail)
          go_wp2
          go_roundw
          case rel => exact ⟨k + 1, by omega, by go_num, hid (by rw [HT1.out, HT2.out, hall.out]), hq.drewN _⟩
          case measure => simp [intOf]; omega
        · have HD : Hid (r = false) := hid (by
            rw [← HR.out, beq_eq_false_iff_ne]
            intro hpq
            have h1 := HG1.out
            rw [hpq, HG2.out] at h1
            injection h1 with h1
            injection h1 with h1 h2
            exact he ⟨h1.symm, h2.symm⟩)
          by_cases h1 : x1 = y1
          · have h2 : ¬ x2 = y2 := fun h => he ⟨h1, h⟩
            have e1 : (x1 != y1) = false := by simp [h1]
            have e2 : (x2 != y2) = true := by simp [h2]
            have e3 : (x1 == y1) = true := by simp [h1]
            have e4 : (x2 == y2) = false := by simp [h2]
            clear he h1 h2
            go_wp2_with fail
            go_quiet (fail)
            go_wp2
            go_ret
            exact ⟨by rw [HD.out]; rfl, hq.drewN _⟩
          · have e3 : (x1 == y1) = false := by simp [h1]
            have e1 : (x1 != y1) = true := by simp [h1]
            clear he h1
            go_wp2_with fail
            go_quiet (fail)
            go_wp2
            go_ret
            exact ⟨by rw [HD.out]; rfl, hq.drewN _⟩
      · obtain rfl : k = n := by omega
        have HD : Hid (r = true) := hid (by
          rw [← HR.out, beq_iff_eq]
          have := hall.out
          rwa [List.take_of_length_le (by rw [HN.out]; exact Nat.le_refl _), List.take_of_length_le (by rw [HN'.out]; exact Nat.le_refl _)] at this)
        go_wp2
        go_ret
        exact ⟨by rw [HD.out]; rfl, hq⟩
  · have e0 : ((n : Int) != (n' : Int)) = true := by simp; omega
    have HD : Hid (r = false) := hid (by
      rw [← HR.out, beq_eq_false_iff_ne]
      intro h
      exact hlen (by rw [← HN.out, ← HN'.out, h]))
    clear hlen
    go_enter Try.func38, Try.ntmps38
    go_wp2
    go_ret
    exact ⟨by rw [HD.out]; rfl, Qt.refl _⟩
end Go.Proofs.Ytbafbnkmmpaomaa

/- Contract of the document's Right. -/
namespace Go.Proofs.Ytbafbnkmmpaomaa
open Go.RowKit
set_option linter.unusedVariables false
set_option linter.unusedSimpArgs false
attribute [local go_sem ↓] Go.wp_at_zero Go.wp_at_succ

/-- No fault is seen among the first i slots. -/
def Pre (l : List (Bool × Int)) (i : Nat) : Prop := ∀ j, (h : j < l.length) → j < i → (l[j].1 = false → l[j].2 = 0) ∧ ∀ k, (h2 : k < l.length) → k < j → ¬ (l[j].1 = true ∧ l[k].1 = true ∧ l[k].2 = l[j].2)
def PreIn (l : List (Bool × Int)) (i j : Nat) : Prop := ∀ (h : i < l.length) k, (h2 : k < l.length) → k < j → ¬ (l[i].1 = true ∧ l[k].1 = true ∧ l[k].2 = l[i].2)
theorem pre_next {l : List (Bool × Int)} {i : Nat} (hp : Pre l i) (h1 : ∀ (h : i < l.length), l[i].1 = false → l[i].2 = 0) (h2 : PreIn l i i) : Pre l (i + 1) := by
  intro j h hj
  rcases Nat.lt_or_ge j i with h3 | h3
  · exact hp j h h3
  · have : j = i := by omega
    subst this
    exact ⟨h1 h, h2 h⟩
theorem dir_pre {l : List (Bool × Int)} : Vt.Dir l ↔ Pre l l.length := by
  constructor
  · intro hd j h _
    refine ⟨fun hu => hd.1 l[j] (List.getElem_mem h) hu, fun k h2 hk ⟨a, b, c⟩ => ?_⟩
    have := hd.2 k j l[j].2 (by rw [List.getElem?_eq_getElem h2, ← c, ← b]) (by rw [List.getElem?_eq_getElem h, ← a])
    omega
  · intro hp
    constructor
    · intro s hs hu
      obtain ⟨i, hi, rfl⟩ := List.getElem_of_mem hs
      exact (hp i hi hi).1 hu
    · have key : ∀ (i j : Nat) (k : Int), j < i → l[i]? = some (true, k) → l[j]? = some (true, k) → False := by
        intro i j k hlt hi hj
        obtain ⟨h1, e1⟩ := List.getElem?_eq_some_iff.1 hi
        obtain ⟨h2, e2⟩ := List.getElem?_eq_some_iff.1 hj
        exact (hp i h1 h1).2 j h2 hlt ⟨by rw [e1], by rw [e2], by rw [e1, e2]⟩
      intro i j k hi hj
      rcases Nat.lt_trichotomy i j with h | h | h
      · exact absurd hi (fun hi => key j i k h hj hi)
      · exact h
      · exact absurd hi (fun hi => key i j k h hi hj)
set_option maxRecDepth 100000 in
set_option maxHeartbeats 8000000 in
theorem rright_is {v : Value} {n : Nat} {l : List (Bool × Int)} {w : World} {B : Nat} (hs : Sl w B 2 v n (sls l)) (b : Bool) (hb : Vt.Ok l ↔ b = true) :
    Calls Try.prog 29 #[v] w fun e w' => e = .returned (.bool b) ∧ Qt w w' := by
  have hl : l.length = n := by have := hs.len; rw [len_sls] at this; omega
  obtain ⟨A, c, rfl, hnc, hcm, hll, hx⟩ := hs
  have hm : n ≤ 9223372036854775807 := by unfold maxLen at hcm; omega
  have HX := hid hx
  have HL := hid hl
  have HB := hid hb
  clear hx hll hl hb hcm
  by_cases h1 : 1 ≤ n
  case neg =>
    have HF : Hid (b = false) := hid (by cases b with | false => rfl | true => have := HB.out.2 rfl; have := this.1; rw [HL.out] at this; omega)
    have i0 : (n : Int) < 1 := by omega
    clear h1
    go_enter Try.func29, Try.ntmps29
    go_wp2
    go_ret
    exact ⟨by rw [HF.out]; rfl, Qt.refl _⟩
  case pos =>
    by_cases h2 : n ≤ 1024
    case neg =>
      have HF : Hid (b = false) := hid (by cases b with | false => rfl | true => have := HB.out.2 rfl; have := this.2.1; rw [HL.out] at this; omega)
      have i0 : ¬ (n : Int) < 1 := by omega
      have i1 : (1024 : Int) < (n : Int) := by omega
      clear h1 h2
      go_enter Try.func29, Try.ntmps29
      go_wp2
      go_ret
      exact ⟨by rw [HF.out]; rfl, Qt.refl _⟩
    case pos =>
      have HOK : Hid (Vt.Ok l ↔ Pre l l.length) := hid (by
        rw [← dir_pre]
        exact ⟨fun h => h.2.2, fun h => ⟨by rw [HL.out]; exact h1, by rw [HL.out]; exact h2, h⟩⟩)
      have i0 : ¬ (n : Int) < 1 := by omega
      have i1 : ¬ (1024 : Int) < (n : Int) := by omega
      go_enter Try.func29, Try.ntmps29
      go_wp2_with fail
      go_loopw [3, 4] (fun iv _ wr => ∃ i : Nat, i ≤ n ∧ iv = .int .i64 (i : Int) ∧ Hid (Pre l i) ∧ Qt w wr) (fun iv _ _ => n - (intOf iv).toNat)
      case atStart => exact ⟨0, Nat.zero_le _, rfl, hid (fun j _ hj => absurd hj (Nat.not_lt_zero _)), Qt.refl _⟩
      case round =>
        obtain ⟨i, hi, rfl, HP, hq⟩ := hrel
        by_cases hlt : i < n
        · have j0 : (i : Int) < (n : Int) := by omega
          have j1 : (0 : Int) ≤ (i : Int) := by omega
          have hil : i < l.length := by rw [HL.out]; exact hlt
          obtain ⟨b6, o6, rfl, hb6, hc6⟩ := HX.out (by omega)
          have HC := hid hc6
          obtain ⟨p0, p1⟩ := sls_cell hc6 hil
          have q0 := (hq.cell ⟨b6, o6 + i * 2, none⟩).trans p0
          have q1 := (hq.cell ⟨b6, o6 + i * 2 + 1, none⟩).trans p1
          obtain ⟨u, hu⟩ : ∃ u, u = l[i].1 := ⟨_, rfl⟩
          obtain ⟨x, hx⟩ : ∃ x, x = l[i].2 := ⟨_, rfl⟩
          rw [← hu] at q0
          rw [← hx] at q1
          have HU : Hid (∀ h : i < l.length, u = l[i].1 ∧ x = l[i].2) := hid (fun _ => ⟨hu, hx⟩)
          clear hu hx p0 p1 hc6
          cases u with
          | false =>
            by_cases hx0 : x = 0
            · subst hx0
              have HI : Hid (PreIn l i i) := hid (fun h k h2 hk hh => by rw [← (HU.out h).1] at hh; cases hh.1)
              have HN : Hid (Pre l (i + 1)) := hid (pre_next HP.out (fun h _ => (HU.out h).2.symm) HI.out)
              go_wp2_with fail
              go_loopw [4] (fun kv wr => ∃ k : Nat, k ≤ i ∧ kv = .int .i64 (k : Int) ∧ Qt w wr) (fun kv _ => i - (intOf kv).toNat)
              case atStart => exact ⟨0, Nat.zero_le _, rfl, hq⟩
              case round =>
                clear hq q0 q1
                obtain ⟨k, hk, rfl, hq⟩ := hrel
                by_cases hki : k < i
                · have k0 : (k : Int) < (i : Int) := by omega
                  have k1 : (0 : Int) ≤ (k : Int) := by omega
                  have k2 : (k : Int) < (n : Int) := by omega
                  obtain ⟨p0, p1⟩ := sls_cell HC.out hil
                  have q0 := (hq.cell ⟨b6, o6 + i * 2, none⟩).trans p0
                  rw [← (HU.out hil).1] at q0
                  clear p0 p1
                  go_wp2_with fail
                  go_quiet (fail)
                  go_wp2
                  go_roundw
                  case rel => exact ⟨k + 1, by omega, by go_num, hq.drewN _⟩
                  case measure => simp [intOf]; omega
                · have k0 : ¬ (k : Int) < (i : Int) := by omega
                  go_wp2_with fail
                  go_roundw
                  case rel => exact ⟨i + 1, by omega, by go_num, HN, hq⟩
                  case measure => simp [intOf]; omega
            · have e1 : (x != 0) = true := by simp [hx0]
              have HF : Hid (b = false) := hid (by
                cases b with
                | false => rfl
                | true =>
                  have := (HOK.out.1 (HB.out.2 rfl)) i hil hil
                  exact absurd ((HU.out hil).2.trans (this.1 (HU.out hil).1.symm)) hx0)
              clear hx0
              go_wp2
              go_ret
              exact ⟨by rw [HF.out]; rfl, hq⟩
          | true =>
            clear q1
            go_wp2_with fail
            go_loopw [4] (fun kv wr => ∃ k : Nat, k ≤ i ∧ kv = .int .i64 (k : Int) ∧ Hid (PreIn l i k) ∧ Qt w wr) (fun kv _ => i - (intOf kv).toNat)
            case atStart => exact ⟨0, Nat.zero_le _, rfl, hid (fun _ _ _ hk => absurd hk (Nat.not_lt_zero _)), hq⟩
            case round =>
              clear hq q0
              obtain ⟨k, hk, rfl, HI, hq⟩ := hrel
              by_cases hki : k < i
              · have k0 : (k : Int) < (i : Int) := by omega
                have k1 : (0 : Int) ≤ (k : Int) := by omega
                have k2 : (k : Int) < (n : Int) := by omega
                have hkl : k < l.length := by rw [HL.out]; omega
                obtain ⟨p0, p1⟩ := sls_cell HC.out hil
                have q0 := (hq.cell ⟨b6, o6 + i * 2, none⟩).trans p0
                have q1 := (hq.cell ⟨b6, o6 + i * 2 + 1, none⟩).trans p1
                rw [← (HU.out hil).1] at q0
                rw [← (HU.out hil).2] at q1
                obtain ⟨p2, p3⟩ := sls_cell HC.out hkl
                have q2 := (hq.cell ⟨b6, o6 + k * 2, none⟩).trans p2
                have q3 := (hq.cell ⟨b6, o6 + k * 2 + 1, none⟩).trans p3
                have HN := hid (fun (h : ¬ (l[k].1 = true ∧ l[k].2 = x)) => (show PreIn l i (k + 1) from fun h1 k' h2' hk' hh => by
                  rcases Nat.lt_or_ge k' k with h3 | h3
                  · exact HI.out h1 k' h2' h3 hh
                  · have : k' = k := by omega
                    subst this
                    exact h ⟨hh.2.1, by rw [hh.2.2, ← (HU.out h1).2]⟩))
                have HFF := hid (fun (h : l[k].1 = true ∧ l[k].2 = x) => (show b = false by
                  cases b with
                  | false => rfl
                  | true =>
                    have := (HOK.out.1 (HB.out.2 rfl)) i hil hil
                    exact absurd ⟨(HU.out hil).1.symm, h.1, by rw [h.2, (HU.out hil).2]⟩ (this.2 k hkl hki)))
                obtain ⟨u', hu'⟩ : ∃ u, u = l[k].1 := ⟨_, rfl⟩
                obtain ⟨x', hx'⟩ : ∃ x, x = l[k].2 := ⟨_, rfl⟩
                rw [← hu'] at q2 HN HFF
                rw [← hx'] at q3 HN HFF
                clear hu' hx' p0 p1 p2 p3 hil hkl
                cases u' with
                | false =>
                  have HN2 := hid (HN.out (by simp))
                  clear q1 q3
                  go_wp2_with fail
                  go_quiet (fail)
                  go_wp2
                  go_roundw
                  case rel => exact ⟨k + 1, by omega, by go_num, HN2, hq.drewN _⟩
                  case measure => simp [intOf]; omega
                | true =>
                  by_cases he : x' = x
                  · have e1 : (x' == x) = true := by simp [he]
                    have HF := hid (HFF.out ⟨rfl, he⟩)
                    clear he
                    go_wp2_with fail
                    go_quiet (fail)
                    go_wp2
                    go_ret
                    exact ⟨by rw [HF.out]; rfl, hq.drewN _⟩
                  · have e1 : (x' == x) = false := by simp [he]
                    have HN2 := hid (HN.out (fun h => he h.2))
                    clear he
                    go_wp2_with fail
                    go_quiet (fail)
                    go_wp2
                    go_roundw
                    case rel => exact ⟨k + 1, by omega, by go_num, HN2, hq.drewN _⟩
                    case measure => simp [intOf]; omega
              · have k0 : ¬ (k : Int) < (i : Int) := by omega
                obtain rfl : k = i := by omega
                have HN : Hid (Pre l (k + 1)) := hid (pre_next HP.out (fun h hf => by rw [← (HU.out h).1] at hf; cases hf) HI.out)
                go_wp2_with fail
                go_roundw
                case rel => exact ⟨k + 1, by omega, by go_num, HN, hq⟩
                case measure => simp [intOf]; omega
        · have j0 : ¬ (i : Int) < (n : Int) := by omega
          obtain rfl : i = n := by omega
          have HF : Hid (b = true) := hid (HB.out.1 (HOK.out.2 (by rw [HL.out]; exact HP.out)))
          go_wp2
          go_ret
          exact ⟨by rw [HF.out]; rfl, hq⟩
end Go.Proofs.Ytbafbnkmmpaomaa

