/- The texts MgVer, ModA, ModB, ModC, ModD, SnA, SnB, SnC, MgPart, GroA, GroB, SnD, SnE, SketchPlain, merged. No theorem here is a claim by itself. -/
import Derived.Test.YtahodfikhocobaaGreatDoorMb2
import Derived.Test.YtahodfikhocobaaGreatDoorMb1
import Derived.Deep.Cut
import Derived.Deep.DeepCutAuto
import Derived.Shelf.Bits.Mul64
import Derived.Deep.CutBlock
import Derived.Laws.BytesArg
import Derived.Laws.IdiomStrings
import Derived.IntWalk
import Derived.Deep.AppendLies
import Derived.ArgAppend
import Derived.Deep.RegionHeld3
import Derived.Deep.LoopGhost
import Derived.Deep.Upon
/- Cells of slots; verts.sized, verts.New. -/
namespace Go.Proofs.YtahodfikhocobaaGreatDoor
open Go.RowKit
set_option linter.unusedVariables false
set_option linter.unusedSimpArgs false

def sls (l : List (Bool × Int)) : List Value := l.flatMap fun h => [.bool h.1, .int .u64 h.2]
theorem len_sls (l : List (Bool × Int)) : (sls l).length = l.length * 2 := by
 induction l with
 | nil => rfl
 | cons e l ih => simp [sls] at ih ⊢; omega
theorem sls_at (l : List (Bool × Int)) (k : Nat) (h : k < l.length) : (sls l)[k * 2]? = some (.bool l[k].1) ∧ (sls l)[k * 2 + 1]? = some (.int .u64 l[k].2) := by
 induction l generalizing k with
 | nil => simp at h
 | cons e l ih =>
  cases k with
  | zero => simp [sls]
  | succ k =>
   have := ih k (by simpa using h)
   simp only [sls, List.flatMap_cons, List.getElem_cons_succ] at this ⊢
   rw [show (k + 1) * 2 = (k * 2) + 2 by omega]
   exact this
theorem sls_one (l : List (Bool × Int)) : ∀ u ∈ sls l, u.oneCell' = true := by
 intro u hu
 obtain ⟨_, _, h⟩ := List.mem_flatMap.1 hu
 simp at h
 rcases h with rfl | rfl <;> rfl
theorem sls_cell {w : World} {b o : Nat} {l : List (Bool × Int)} (h : ∀ j u, (sls l)[j]? = some u → w.cell? ⟨b, o + j, none⟩ = some u) {k : Nat} (hk : k < l.length) :
  w.cell? ⟨b, o + k * 2, none⟩ = some (.bool l[k].1) ∧ w.cell? ⟨b, o + k * 2 + 1, none⟩ = some (.int .u64 l[k].2) := by
 have e := sls_at l k hk
 exact ⟨h _ _ e.1, by rw [Nat.add_assoc]; exact h _ _ e.2⟩
theorem vsized_yes {n : Int} (h : 1 ≤ n ∧ n ≤ 1024) (w : World) : Calls Tryz.prog 155 #[.int .i64 n] w fun e w' => e = .returned (.bool true) ∧ w = w' := by
 obtain ⟨h1, h2⟩ := h
 go_enter Tryz.func155, Tryz.ntmps155
 go_wp2
 go_ret
 exact ⟨ret_bool (by first | (simp; done) | (simp; omega)), rfl⟩
theorem vsized_no {n : Int} (h : ¬ (1 ≤ n ∧ n ≤ 1024)) (w : World) : Calls Tryz.prog 155 #[.int .i64 n] w fun e w' => e = .returned (.bool false) ∧ w = w' := by
 by_cases h1 : 1 ≤ n
 ·
  have h2 : ¬ n ≤ 1024 := by omega
  clear h
  go_enter Tryz.func155, Tryz.ntmps155
  go_wp2
  go_ret
  exact ⟨ret_bool (by first | (simp; done) | (simp; omega)), rfl⟩
 ·
  clear h
  go_enter Tryz.func155, Tryz.ntmps155
  go_wp2
  go_ret
  exact ⟨ret_bool (by first | (simp; done) | (simp; omega)), rfl⟩
theorem Tsls : SlT 83 192 (.agg #[.bool false, .int .u64 0]) 2 16 := SlT.mk Tryz.underlying83 (by kernel_rfl) rfl (by decide) (by decide)
end Go.Proofs.YtahodfikhocobaaGreatDoor

/- make of slots; verts.New. -/
namespace Go.Proofs.YtahodfikhocobaaGreatDoor
open Go.RowKit
set_option linter.unusedVariables false
set_option linter.unusedSimpArgs false
theorem len_vnew (n : Nat) : (sls (List.replicate n (false, 0))).length = n * 2 := by rw [len_sls]; simp
theorem made_sls (n : Nat) : madeCells #[.bool false, .int .u64 0] (n * 2) = (sls (List.replicate n (false, 0))).toArray := by
 apply Array.ext
 · simp [madeCells, len_sls]
 ·
  intro i h1 h2
  have hi : i < n * 2 := by simpa [madeCells] using h1
  have e := sls_at (List.replicate n (false, 0)) (i / 2) (by simp; omega)
  rw [List.getElem_replicate] at e
  have h2' : i < (sls (List.replicate n (false, 0))).length := by simpa using h2
  have g : (sls (List.replicate n (false, 0)))[i]? = some ((sls (List.replicate n (false, 0)))[i]) := List.getElem?_eq_getElem h2'
  rcases Nat.mod_two_eq_zero_or_one i with h | h
  ·
   rw [show i / 2 * 2 = i by omega, g] at e
   have := Option.some.inj e.1
   simp [madeCells, h, this]
  ·
   rw [show i / 2 * 2 + 1 = i by omega, g] at e
   have := Option.some.inj e.2
   simp [madeCells, h, this]
theorem run_make_sls (n : Nat) (h : n ≤ 1000000) (w : World) :
  (Instr.makeSlice 83 (.int .i64 (n : Int)) (.int .i64 (n : Int))).run Tryz.prog w = .ok (.slice (some ⟨w.heap.size, 0, none⟩) n n) (w.alloc (.cells (sls (List.replicate n (false, 0))).toArray 192)) := by
 obtain ⟨hu, ⟨i, hi, hz, hsz, hby⟩, hzs, h0, h0b⟩ := Tsls
 have hr := run_make (P := Tryz.prog) w 83 192 i (.agg #[.bool false, .int .u64 0]) hu hi hz .i64 .i64 n n (by omega) (by omega) (by rw [hby]; omega) (by omega)
 rw [hr, hsz]
 have e : madeCells (Value.agg #[.bool false, .int .u64 0]).cells ((n : Int).toNat * 2) = (sls (List.replicate n (false, 0))).toArray := by
  rw [← made_sls]
  rfl
 rw [e]
 simp
end Go.Proofs.YtahodfikhocobaaGreatDoor

/- Contract of verts.keyed. -/
namespace Go.Proofs.YtahodfikhocobaaGreatDoor
open Go.RowKit
set_option linter.unusedVariables false
set_option linter.unusedSimpArgs false
theorem IsD.other {w : World} {K : Nat} {T : TypeId} {u : Value} {v : Option Addr} {l : List (Int × Int)} (h : IsD w v l) (hb : Blk w K T [u]) (u' : Value) : IsD (w.setCell ⟨K, 0, none⟩ u') v l := by
 obtain ⟨t, h1, h2, h3, h4⟩ := h
 refine ⟨t, ?_, h2, h3, h4⟩
 have := h1.other hb u'
 simpa [World.setCell] using this
def kd (l : List (Bool × Int)) : Option (List (Int × Int)) := if 1 ≤ l.length ∧ l.length ≤ 1024 then Vt.keyed l else none
def KeyedPost (l : List (Bool × Int)) (w : World) (e : Ending) (w' : World) : Prop := ∃ pt, e = .returned (.tuple #[.agg #[.pointer pt], .bool (kd l).isSome]) ∧ IsD w' pt ((kd l).getD []) ∧ Below w.heap.size w w'
theorem keyed_any {v : Value} {n : Nat} {l : List (Bool × Int)} {w : World} (hl : Sl w w.heap.size 2 v n (sls l)) :
  Calls Tryz.prog 133 #[v] w (KeyedPost l w) := by
 have hll : l.length = n := by have := hl.len; rw [len_sls] at this; omega
 have HLN := hid hll
 have HLw := hid hl
 obtain ⟨A, c, rfl, hnc, hcm, _, hx⟩ := hl
 have HX := hid hx
 have hmi : (n : Int) ≤ 9223372036854775807 := by unfold maxLen at hcm; omega
 clear hx hll hcm hnc
 have HB : Hid (Below w.heap.size w w) := hid (Below.refl _ _)
 have Z_r : Hid (IsD w none []) := hid (IsD.none_ _)
 have Z_d : Hid (IsD w none []) := hid (IsD.none_ _)
 obtain ⟨w1, hw⟩ : ∃ w1, w1 = w.alloc (.cells #[.pointer none] 195) := ⟨_, rfl⟩
 obtain ⟨Kr, hK⟩ : ∃ Kr, Kr = w.heap.size := ⟨_, rfl⟩
 have b : Below w.heap.size w w1 := by rw [hw]; exact bel_new _ _
 have D_r' : Hid (Blk w1 Kr 195 [.pointer none]) := hid (by rw [hw, hK]; exact Blk.new w _ [.pointer none])
 have I_r' := hid (Z_r.out.call b)
 have LO_r : Hid (w.heap.size ≤ Kr) := hid (by rw [hK]; exact HB.out.size)
 replace HLw := hid (HLw.out.call b)
 replace Z_d := hid (Z_d.out.call b)
 replace HB := hid (Bl.call HB.out b)
 have D_r := D_r'
 have I_r := I_r'
 have HW1 := hid hw
 have HK1 := hid hK
 clear b hw hK D_r' I_r' Z_r
 obtain ⟨w2, hw⟩ : ∃ w2, w2 = w1.alloc (.cells #[.pointer none] 195) := ⟨_, rfl⟩
 obtain ⟨Kd, hK⟩ : ∃ Kd, Kd = w1.heap.size := ⟨_, rfl⟩
 have b : Below w1.heap.size w1 w2 := by rw [hw]; exact bel_new _ _
 have D_d' : Hid (Blk w2 Kd 195 [.pointer none]) := hid (by rw [hw, hK]; exact Blk.new w1 _ [.pointer none])
 have I_d' := hid (Z_d.out.call b)
 have LO_d : Hid (w.heap.size ≤ Kd) := hid (by rw [hK]; exact HB.out.size)
 have NErd : Hid (Kr ≠ Kd) := hid (by have := D_r.out.lt; omega)
 have NEdr : Hid (Kd ≠ Kr) := hid (by have := D_r.out.lt; omega)
 replace D_r := hid (D_r.out.below b D_r.out.lt)
 replace I_r := hid (I_r.out.call b)
 replace HLw := hid (HLw.out.call b)
 replace HB := hid (Bl.call HB.out b)
 have D_d := D_d'
 have I_d := I_d'
 have HW2 := hid hw
 have HK2 := hid hK
 clear b hw hK D_d' I_d' Z_d
 go_enter Tryz.func133, Tryz.ntmps133
 go_upto_region 2 with (fail)
 have HKQ : Hid (Kd = Kr + 1) := hid (by rw [HK2.out, HW1.out, HK1.out]; simp)
 rw [← HW1.out, ← HK1.out, ← HW2.out, ← HKQ.out]
 have c_r : w2.cell? ⟨Kr, 0, none⟩ = some (.pointer none) := D_r.out.cell 0
 have f_r : w2.frozen? ⟨Kr, 0, none⟩ = false := D_r.out.frozen 0
 have c_d : w2.cell? ⟨Kd, 0, none⟩ = some (.pointer none) := D_d.out.cell 0
 have f_d : w2.frozen? ⟨Kd, 0, none⟩ = false := D_d.out.frozen 0
 by_cases hz : 1 ≤ n ∧ n ≤ 1024
 case neg =>
  have hk : Hid (kd l = none) := hid (by unfold kd; rw [if_neg (by rw [HLN.out]; exact hz)])
  have HZ : Hid (¬ (1 ≤ (n : Int) ∧ (n : Int) ≤ 1024)) := hid (by omega)
  clear hz c_r f_r c_d f_d
  go_wp2_with fail
  refine (vsized_no HZ.out _).mono ?_; rintro e w' ⟨rfl, rfl⟩
  have c_r := D_r.out.cell 0
  have f_r := D_r.out.frozen 0
  have c_d := D_d.out.cell 0
  go_wp2
  exact bodyPost_ret (v := .tuple #[.agg #[.pointer none], .bool false]) (by simp [results, Tryz.results133, go_sem, c_r]) rfl ⟨none, by rw [hk.out]; rfl, by rw [hk.out]; exact ((I_d.out.other D_r.out (.pointer none))), HB.out.setCell (p := ⟨Kr, 0, none⟩) LO_r.out _⟩
 case pos =>
  have hk : Hid (kd l = Vt.keyed l) := hid (by unfold kd; rw [if_pos (by rw [HLN.out]; exact hz)])
  have HZ : Hid (1 ≤ (n : Int) ∧ (n : Int) ≤ 1024) := hid (by omega)
  have hn2 : n ≤ 1024 := hz.2
  clear hz c_r f_r c_d f_d
  go_wp2_with fail
  refine (vsized_yes HZ.out _).mono ?_; rintro e w' ⟨rfl, rfl⟩
  go_wp2_with fail
  go_loopw [16] (fun iv wr => ∃ (j : Nat) (pt : Option Addr) (d : List (Int × Int)), iv = .int .i64 (j : Int) ∧ j ≤ n ∧ Hid (Vt.keyed (l.take j) = some d) ∧ Hid (Blk wr Kr 195 [.pointer none]) ∧ Hid (Blk wr Kd 195 [.pointer pt]) ∧ Hid (IsD wr pt d) ∧ Hid (Below w.heap.size w wr)) (fun iv _ => n - (intOf iv).toNat)
  case atStart => exact ⟨0, none, [], rfl, Nat.zero_le _, hid rfl, D_r, D_d, I_d, HB⟩
  case round =>
   clear D_r D_d I_d HB
   obtain ⟨j, pt, d, rfl, hj, HKD, D_r, D_d, I_d, HB⟩ := hrel
   by_cases hlt : j < n
   ·
    have hji : (j : Int) < (n : Int) := by omega
    have hkl : j < l.length := by rw [HLN.out]; exact hlt
    obtain ⟨b, o, rfl, hbb, hc⟩ := HX.out (by omega)
    obtain ⟨q0, q1⟩ := sls_cell hc hkl
    have c0 := (HB.out.cell (p := ⟨b, o + j * 2, none⟩) hbb).trans q0
    have c1 := (HB.out.cell (p := ⟨b, o + j * 2 + 1, none⟩) hbb).trans q1
    have hst := Vt.keyed_take l j hkl
    rw [HKD.out] at hst
    have HLEN : Hid (d.length ≤ 100000) := hid (by rcases Vt.keyed_cases (l.take j) with ⟨d', h1, h2, _⟩ | ⟨h1, _⟩; (· rw [HKD.out] at h1; cases h1; have := h2.2.1; rw [List.length_take] at this; omega); (· rw [HKD.out] at h1; cases h1))
    generalize l[j] = s at *
    obtain ⟨u, k⟩ := s
    have HST := hid hst
    clear hst q0 q1 hc
    cases u with
    | false =>
     by_cases hk0 : k = 0
     ·
      subst hk0
      have HN := hid (bel_new wr (.cells #[.bool false, .int .u64 0] 192))
      go_wp2
      go_roundw
      case rel => exact ⟨j + 1, pt, d, by go_num, by omega, hid (by rw [HST.out]; rfl), hid (D_r.out.below HN.out D_r.out.lt), hid (D_d.out.below HN.out D_d.out.lt), hid (I_d.out.call HN.out), hid (Bl.call HB.out HN.out)⟩
      case measure => simp [intOf]; omega
     ·
      have hkb : (k != 0) = true := by simp [hk0]
      have hkk : Hid (kd l = none) := hid (by rw [hk.out]; exact Vt.keyed_none l (j + 1) (by rw [HST.out]; simp [Vt.kstep, hk0]))
      have HN := hid (bel_new wr (.cells #[.bool false, .int .u64 k] 192))
      have D2 := hid (D_r.out.below HN.out D_r.out.lt)
      have c_r := D2.out.cell 0
      have f_r := D2.out.frozen 0
      go_wp2
      exact bodyPost_ret (v := .tuple #[.agg #[.pointer none], .bool false]) (by simp [results, Tryz.results133, go_sem, c_r]) rfl ⟨none, by rw [hkk.out]; rfl, by rw [hkk.out]; exact IsD.none_ _, (Bl.call HB.out HN.out).setCell (p := ⟨Kr, 0, none⟩) LO_r.out _⟩
    | true =>
     have HN := hid (bel_new wr (.cells #[.bool true, .int .u64 k] 192))
     have D2 := hid (D_d.out.below HN.out D_d.out.lt)
     have c_d := D2.out.cell 0
     go_wp2_with fail
     refine (get_any (k := k) (I_d.out.call HN.out) HLEN.out).mono ?_; rintro e w5 ⟨rfl, b5⟩
     have SB := hid ((Blk.new wr 192 [.bool true, .int .u64 k]).below b5 (by simp))
     have HB5 := hid (Bl.call (Bl.call HB.out HN.out) b5)
     have D5r := hid ((D_r.out.below HN.out D_r.out.lt).below b5 (D_r.out.below HN.out D_r.out.lt).lt)
     have D5d := hid (D2.out.below b5 D2.out.lt)
     have I5 := hid ((I_d.out.call HN.out).call b5)
     clear c_d b5 c0 c1 D2
     cases hg : Dc.get d k with
     | some m =>
      have hkk : Hid (kd l = none) := hid (by rw [hk.out]; exact Vt.keyed_none l (j + 1) (by rw [HST.out]; simp [Vt.kstep, hg]))
      have c_r := D5r.out.cell 0
      have f_r := D5r.out.frozen 0
      go_wp2
      exact bodyPost_ret (v := .tuple #[.agg #[.pointer none], .bool false]) (by simp [results, Tryz.results133, go_sem, c_r]) rfl ⟨none, by rw [hkk.out]; rfl, by rw [hkk.out]; exact IsD.none_ _, HB5.out.setCell (p := ⟨Kr, 0, none⟩) LO_r.out _⟩
     | none =>
      have HG := hid hg
      clear hg
      have c_d := D5d.out.cell 0
      have s_1 := SB.out.cell 1
      go_wp2_with fail
      refine (put_any (k := k) (n := (j : Int)) I5.out HLEN.out).mono ?_; rintro e w6 ⟨v6, rfl, i6, b6⟩
      have D6r := hid (D5r.out.below b6 D5r.out.lt)
      have D6d := hid (D5d.out.below b6 D5d.out.lt)
      have I6 := hid i6
      have HB6 := hid (Bl.call HB5.out b6)
      clear i6 b6 c_d s_1
      have c_d := D6d.out.cell 0
      have f_d := D6d.out.frozen 0
      go_wp2
      go_roundw
      case rel => exact ⟨j + 1, v6, Dc.put d k (j : Int), by go_num, by omega, hid (by rw [HST.out]; simp [Vt.kstep, HG.out]), hid (D6r.out.far NErd.out _), hid (D6d.out.put 0 _), hid (I6.out.other D6d.out (.pointer v6)), hid (HB6.out.setCell (p := ⟨Kd, 0, none⟩) LO_d.out _)⟩
      case measure => simp [intOf]; omega
   ·
    obtain rfl : j = n := by omega
    have hji : ¬ (j : Int) < (j : Int) := by omega
    have hkk : Hid (kd l = some d) := hid (by rw [hk.out, ← HKD.out, List.take_of_length_le (by rw [HLN.out]; exact Nat.le_refl _)])
    have c_r := D_r.out.cell 0
    have f_r := D_r.out.frozen 0
    have c_d := D_d.out.cell 0
    go_wp2
    exact bodyPost_ret (v := .tuple #[.agg #[.pointer pt], .bool true]) (by simp [results, Tryz.results133, go_sem, c_r]) rfl ⟨pt, by rw [hkk.out]; rfl, by rw [hkk.out]; exact ((I_d.out.other D_r.out (.pointer pt))), HB.out.setCell (p := ⟨Kr, 0, none⟩) LO_r.out _⟩
end Go.Proofs.YtahodfikhocobaaGreatDoor

/- Contracts of verts.Right, verts.Find. -/
namespace Go.Proofs.YtahodfikhocobaaGreatDoor
open Go.RowKit
set_option linter.unusedVariables false
set_option linter.unusedSimpArgs false
theorem kd_len {l : List (Bool × Int)} : ((kd l).getD []).length ≤ 100000 := by
 unfold kd
 split
 ·
  rename_i h
  rcases Vt.keyed_cases l with ⟨d, h1, h2, _⟩ | ⟨h1, _⟩
  · rw [h1]; have := h2.2.1; simp; omega
  · rw [h1]; simp
 · simp
theorem vright_is {v : Value} {n : Nat} {l : List (Bool × Int)} {w : World} (hl : Sl w w.heap.size 2 v n (sls l)) (b : Bool) (hb : (kd l).isSome = b) :
  Calls Tryz.prog 132 #[v] w fun e w' => e = .returned (.bool b) ∧ Below w.heap.size w w' := by
 have HL := hid hl
 have HB := hid hb
 clear hl hb
 go_enter Tryz.func132, Tryz.ntmps132
 go_wp2_with fail
 refine (keyed_any HL.out).mono ?_; rintro e w1 ⟨pt, rfl, i1, b1⟩
 rw [HB.out]
 have BB := hid (Bl.new b1 (.cells #[.pointer pt] 195))
 clear i1 b1
 go_wp2
 go_ret
 exact ⟨rfl, BB.out⟩
def fdP (l : List (Bool × Int)) (k : Int) : Option Int := (kd l).bind fun d => Dc.get d k
theorem vfind_is {v : Value} {n : Nat} {l : List (Bool × Int)} {k : Int} {w : World} (hl : Sl w w.heap.size 2 v n (sls l)) (z : Int) (b : Bool) (hz : (fdP l k).getD 0 = z) (hb : (fdP l k).isSome = b) :
  Calls Tryz.prog 114 #[v, .int .u64 k] w fun e w' => e = .returned (.tuple #[.int .i64 z, .bool b]) ∧ Below w.heap.size w w' := by
 have HL := hid hl
 have HLen := hid (kd_len (l := l))
 clear hl
 cases hk : kd l with
 | none =>
  have hz' : z = 0 := by rw [← hz]; unfold fdP; rw [hk]; rfl
  have hb' : b = false := by rw [← hb]; unfold fdP; rw [hk]; rfl
  subst hz' hb'
  have HK := hid hk
  clear hk hz hb
  go_enter Tryz.func114, Tryz.ntmps114
  go_wp2_with fail
  refine (keyed_any HL.out).mono ?_; rintro e w1 ⟨pt, rfl, i1, b1⟩
  rw [HK.out]
  have BB := hid (Bl.new b1 (.cells #[.pointer pt] 195))
  clear i1 b1
  go_wp2
  go_ret2
  exact ⟨rfl, BB.out⟩
 | some d =>
  have hz' : (Dc.get d k).getD 0 = z := by rw [← hz]; unfold fdP; rw [hk]; rfl
  have hb' : (Dc.get d k).isSome = b := by rw [← hb]; unfold fdP; rw [hk]; rfl
  have HK := hid hk
  have HZ := hid (And.intro hz' hb')
  clear hk hz hb hz' hb'
  go_enter Tryz.func114, Tryz.ntmps114
  go_wp2_with fail
  refine (keyed_any HL.out).mono ?_; rintro e w1 ⟨pt, rfl, i1, b1⟩
  rw [HK.out]
  have BB2 := hid (Bl.new b1 (.cells #[.pointer pt] 195))
  have I2 : Hid (IsD (w1.alloc (.cells #[.pointer pt] 195)) pt d) := hid (by rw [HK.out] at i1; exact i1.new _)
  have HLd : Hid (d.length ≤ 100000) := hid (by have := HLen.out; rw [HK.out] at this; exact this)
  clear i1 b1
  go_wp2_with fail
  refine (get_any (k := k) I2.out HLd.out).mono ?_; rintro e w2 ⟨rfl, b2⟩
  rw [HZ.out.1, HZ.out.2]
  have BB3 := hid (Bl.call BB2.out b2)
  clear b2
  go_wp2
  go_ret2
  exact ⟨rfl, BB3.out⟩
end Go.Proofs.YtahodfikhocobaaGreatDoor

/- Keys: cells; contract of raftsmanref05.Same; verts.Keys. -/
namespace Go.Proofs.YtahodfikhocobaaGreatDoor
open Go.RowKit
set_option linter.unusedVariables false
set_option linter.unusedSimpArgs false

section
variable {ops : Array Oper} {rest : List Oper} {o : Oper} {a : Act} {Q : Exit → Act → World → Prop} {w : World}
theorem wl_app1H (hw : Region.wanted o (yielded ops a.tmps) = true) (s x : Operand) {t e : TypeId} {z : Value} {sz by_ : Nat} (hT : SlT t e z sz by_) (hop : o.op = .call { callee := .builtin .append, args := #[s, x], argTypes := #[t, t] })
  {base : Nat} {v : Value} {n : Nat} {xs : List Value} {news : List Value} {e' : TypeId} (hs : a.eval s = v) (hown : w.ownsRow base e sz v n xs) {H : Nat} (hx : a.eval x = .slice (some ⟨H, 0, none⟩) 1 1) (hH : w.heap.size = H)
  (hl : news.length = sz) (h1 : ∀ u ∈ news, u.oneCell' = true) (hb : (n + 1) * by_ ≤ 140737488355328) (hbase : base ≤ w.heap.size)
  (h : ∀ v' w', w'.ownsRow base e sz v' (n + 1) (xs ++ news) → Below base w w' → wpList Tryz.prog ops Q rest (a.put o.dst v') w') : wpList Tryz.prog ops Q (o :: rest) a (w.alloc (.cells news.toArray e')) := by
 subst hH
 exact wl_app1 hw s x hT hop hs hown hx hl h1 hb hbase h
end
end Go.Proofs.YtahodfikhocobaaGreatDoor

/- Contracts of slices.IndexFunc and slices.Clone of slots. -/
namespace Go.Proofs.YtahodfikhocobaaGreatDoor
open Go.RowKit
set_option linter.unusedVariables false
set_option linter.unusedSimpArgs false

theorem kd_cases (l : List (Bool × Int)) : (∃ d, kd l = some d ∧ Vt.Of l d ∧ Vt.Ok l) ∨ (kd l = none ∧ ¬ Vt.Ok l) := by
 unfold kd
 by_cases h : 1 ≤ l.length ∧ l.length ≤ 1024
 ·
  rw [if_pos h]
  rcases Vt.keyed_cases l with ⟨d, h1, h2, h3⟩ | ⟨h1, h2⟩
  · exact .inl ⟨d, h1, h2, h.1, h.2, h3⟩
  · exact .inr ⟨h1, fun h' => h2 h'.2.2⟩
 ·
  rw [if_neg h]
  exact .inr ⟨rfl, fun h' => h ⟨h'.1, h'.2.1⟩⟩
theorem kd_ok {l : List (Bool × Int)} (h : Vt.Ok l) : ∃ d, kd l = some d ∧ Vt.Of l d := by
 rcases kd_cases l with ⟨d, h1, h2, _⟩ | ⟨_, h2⟩
 · exact ⟨d, h1, h2⟩
 · exact absurd h h2
theorem kd_bad {l : List (Bool × Int)} (h : ¬ Vt.Ok l) : kd l = none := by
 rcases kd_cases l with ⟨d, _, _, h2⟩ | ⟨h1, _⟩
 · exact absurd h2 h
 · exact h1
theorem vunused {u : Bool} {k : Int} (w : World) : Calls Tryz.prog 176 #[.agg #[.bool u, .int .u64 k]] w fun e w' => e = .returned (.bool (!u)) ∧ Below w.heap.size w w' := by
 have HB := hid (bel_new w (.cells #[.bool u, .int .u64 k] 192))
 have c0 := (Blk.new w 192 [.bool u, .int .u64 k]).cell 0
 go_enter Tryz.func176, Tryz.ntmps176
 go_wp2
 go_ret
 exact ⟨rfl, HB.out⟩
def ffZ (l : List (Bool × Int)) : Int := match Vt.ff l with | none => -1 | some i => (i : Int)
set_option maxRecDepth 100000 in
theorem vindex_is {v : Value} {n : Nat} {l : List (Bool × Int)} {w : World} (hl : Sl w w.heap.size 2 v n (sls l)) (z : Int) (hz : ffZ l = z) :
  Calls Tryz.prog 175 #[v, .func (Fn.func 176) #[] #[]] w fun e w' => e = .returned (.int .i64 z) ∧ Below w.heap.size w w' := by
 have hll : l.length = n := by have := hl.len; rw [len_sls] at this; omega
 have HLN := hid hll
 have HZ := hid hz
 obtain ⟨A, c, rfl, hnc, hcm, _, hx⟩ := hl
 have HX := hid hx
 have hmi : (n : Int) ≤ 9223372036854775807 := by unfold maxLen at hcm; omega
 clear hx hll hcm hnc hz
 go_enter Tryz.func175, Tryz.ntmps175
 go_wp2_with fail
 go_loopw [8] (fun iv wr => ∃ (j : Nat), iv = .int .i64 (j : Int) ∧ j ≤ n ∧ Hid (∀ i, (h : i < l.length) → i < j → l[i].1 = true) ∧ Hid (Below w.heap.size w wr)) (fun iv _ => n - (intOf iv).toNat)
 case atStart => exact ⟨0, rfl, Nat.zero_le _, hid (fun i _ h => absurd h (Nat.not_lt_zero _)), hid (Below.refl _ _)⟩
 case round =>
  obtain ⟨j, rfl, hj, HA, HB⟩ := hrel
  by_cases hlt : j < n
  ·
   have hji : (j : Int) < (n : Int) := by omega
   have hkl : j < l.length := by rw [HLN.out]; exact hlt
   obtain ⟨b, o, rfl, hbb, hc⟩ := HX.out (by omega)
   obtain ⟨q0, q1⟩ := sls_cell hc hkl
   have c0 := (HB.out.cell (p := ⟨b, o + j * 2, none⟩) hbb).trans q0
   have c1 := (HB.out.cell (p := ⟨b, o + j * 2 + 1, none⟩) hbb).trans q1
   cases hu : l[j].1 with
   | true =>
    rw [hu] at c0
    have HA2 : Hid (∀ i, (h : i < l.length) → i < j + 1 → l[i].1 = true) := hid (fun i h h' => by
     rcases Nat.lt_or_ge i j with h1 | h1
     · exact HA.out i h h1
     ·
      have : i = j := by omega
      subst this; exact hu)
    generalize l[j].2 = k at *
    clear hu hc q0 q1
    go_wp2_with fail
    refine (vunused _).mono ?_; rintro e w5 ⟨rfl, b5⟩
    have HB5 := hid (Bl.call HB.out b5)
    clear b5 c0 c1
    go_wp2_with fail
    go_roundw
    case rel => exact ⟨j + 1, by go_num, by omega, HA2, HB5⟩
    case measure => simp [intOf]; omega
   | false =>
    rw [hu] at c0
    have hz2 : Hid ((j : Int) = z) := hid (by
     rw [← HZ.out]; unfold ffZ
     rw [Vt.ff_here hkl (fun i hi => HA.out i (by omega) hi) hu])
    generalize l[j].2 = k at *
    clear hu hc q0 q1
    go_wp2_with fail
    refine (vunused _).mono ?_; rintro e w5 ⟨rfl, b5⟩
    have HB5 := hid (Bl.call HB.out b5)
    clear b5 c0 c1
    go_wp2
    go_ret
    exact ⟨by rw [hz2.out]; rfl, HB5.out⟩
  ·
   obtain rfl : j = n := by omega
   have hji : ¬ (j : Int) < (j : Int) := by omega
   have hz2 : Hid ((-1 : Int) = z) := hid (by
    rw [← HZ.out]; unfold ffZ
    rw [Vt.ff_none (fun i hi => HA.out i hi (by have := HLN.out; omega))])
   go_wp2
   go_ret
   exact ⟨by rw [hz2.out]; rfl, HB.out⟩
theorem vclone_any (v : Value) (n B : Nat) (p : List (Bool × Int)) (w : World) (hs : Sl w B 2 v n (sls p)) (hB : B ≤ w.heap.size) (hr : n ≤ 1000000) :
  Calls Tryz.prog 177 #[v] w fun e w' => ∃ v', e = .returned v' ∧ w'.ownsRow w.heap.size 192 2 v' n (sls p) ∧ Below w.heap.size w w' := by
 have hs0 := hid hs
 obtain ⟨A, c, rfl, hnc, hcm, hl, hx⟩ := hs
 have heq := fun w => Lib.run_eql_slice_nil (P := Tryz.prog) w 83 192 A n c 0 0 Tryz.underlying83
 cases A with
 | none =>
  have hn : n = 0 := by
   rcases Nat.eq_zero_or_pos n with h | h
   · exact h
   · obtain ⟨_, _, h', _⟩ := hx h; cases h'
  subst hn
  have hp : p = [] := List.eq_nil_of_length_eq_zero (by rw [len_sls] at hl; omega)
  subst hp
  go_enter Tryz.func177, Tryz.ntmps177
  go_wp2
  go_ret
  exact ⟨_, rfl, World.ownsRow_nil _ _ _ _, Below.refl _ _⟩
 | some ad =>
  clear hx
  go_enter Tryz.func177, Tryz.ntmps177
  go_wp2_with (at_builtin; refine wl_app rfl _ _ Tsls rfl rfl (own_empty w _ _ _ (Nat.le_refl _)) rfl (hs0.out.alloc hB _) (sls_one _) (by omega) (by simp) ?_)
  intro v' w' hown hbel
  go_wp2
  go_ret
  exact ⟨_, rfl, hown, ((Below.refl _ _).alloc (Nat.le_refl _) _).trans hbel⟩
end Go.Proofs.YtahodfikhocobaaGreatDoor

/- Contracts of verts.Add, verts.Remove. -/
namespace Go.Proofs.YtahodfikhocobaaGreatDoor
open Go.RowKit
set_option linter.unusedVariables false
set_option linter.unusedSimpArgs false

theorem sls_set (l : List (Bool × Int)) (j : Nat) (u : Bool) (k : Int) : ((sls l).set (j * 2) (.bool u)).set (j * 2 + 1) (.int .u64 k) = sls (l.set j (u, k)) := by
 induction l generalizing j with
 | nil => simp [sls]
 | cons e l ih =>
  cases j with
  | zero => simp [sls]
  | succ j =>
   have := ih j
   simp only [sls, List.flatMap_cons, List.set_cons_succ] at this ⊢
   rw [← this, show (j + 1) * 2 = (j * 2) + 2 by omega]
   rfl
theorem own_slot {w : World} {base g n c : Nat} {l : List (Bool × Int)} (h : w.ownsRow base 192 2 (.slice (some ⟨g, 0, none⟩) n c) n (sls l)) (j : Nat) (u : Bool) (k : Int) :
  ((w.setCell ⟨g, j * 2, none⟩ (.bool u)).setCell ⟨g, j * 2 + 1, none⟩ (.int .u64 k)).ownsRow base 192 2 (.slice (some ⟨g, 0, none⟩) n c) n (sls (l.set j (u, k))) := by
 have := ((h.stored (j * 2) (.bool u)).1.stored (j * 2 + 1) (.int .u64 k)).1
 rwa [sls_set] at this
theorem own_cells {w : World} {base g n c : Nat} {l : List (Bool × Int)} (h : w.ownsRow base 192 2 (.slice (some ⟨g, 0, none⟩) n c) n (sls l)) {j : Nat} (hj : j < l.length) :
  w.cell? ⟨g, j * 2, none⟩ = some (.bool l[j].1) ∧ w.cell? ⟨g, j * 2 + 1, none⟩ = some (.int .u64 l[j].2) ∧ w.frozen? ⟨g, j * 2, none⟩ = false ∧ w.frozen? ⟨g, j * 2 + 1, none⟩ = false := by
 have hn : l.length = n := by have := h.1; rw [len_sls] at this; omega
 have e := sls_at l j hj
 exact ⟨by rw [h.cellAt (j * 2) (by omega)]; exact e.1, by rw [h.cellAt (j * 2 + 1) (by omega)]; exact e.2, h.frozenAt _, h.frozenAt _⟩
end Go.Proofs.YtahodfikhocobaaGreatDoor

/- Contracts of Refs, of the document's Same, Right, Find. -/
namespace Go.Proofs.YtahodfikhocobaaGreatDoor
open Go.RowKit
set_option linter.unusedVariables false
set_option linter.unusedSimpArgs false
attribute [local go_sem ↓] Go.wp_at_zero Go.wp_at_succ

end Go.Proofs.YtahodfikhocobaaGreatDoor

/- Contract of the document's Right. -/
namespace Go.Proofs.YtahodfikhocobaaGreatDoor
open Go.RowKit
set_option linter.unusedVariables false
set_option linter.unusedSimpArgs false
attribute [local go_sem ↓] Go.wp_at_zero Go.wp_at_succ

end Go.Proofs.YtahodfikhocobaaGreatDoor
namespace Go.Proofs.YtahodfikhocobaaGreatDoor
open Go.RowKit
set_option linter.unusedVariables false
theorem modOf_any (a : Nat) (ha : a < 18446744073709551616) (w : World) :
  Calls Tryz.prog 156 #[.int .u64 (a : Int)] w fun e w' => e = .returned (.int .u64 ((a % Md.P : Nat) : Int)) ∧ w = w' := by
 go_enter Tryz.func156, Tryz.ntmps156
 go_wp2
 go_ret
 exact ⟨ret_int (by rw [Md.P_eq]; omega), rfl⟩
theorem modAdd_any (a b : Nat) (ha : a < 18446744073709551616) (hb : b < 18446744073709551616) (w : World) :
  Calls Tryz.prog 124 #[.int .u64 (a : Int), .int .u64 (b : Int)] w fun e w' => e = .returned (.int .u64 ((Md.add a b : Nat) : Int)) ∧ w = w' := by
 obtain ⟨x, hx⟩ : ∃ x, x = a % Md.P := ⟨_, rfl⟩
 obtain ⟨y, hy⟩ : ∃ y, y = b % Md.P := ⟨_, rfl⟩
 have lx : x < 2305843009213693951 := by rw [hx, Md.P_eq]; omega
 have ly : y < 2305843009213693951 := by rw [hy, Md.P_eq]; omega
 have HX := hid hx
 have HY := hid hy
 clear hx hy
 go_enter Tryz.func124, Tryz.ntmps124
 go_wp2_with fail
 refine (modOf_any a ha _).mono ?_; rintro e w' ⟨rfl, rfl⟩
 rw [← HX.out]
 go_wp2_with fail
 refine (modOf_any b hb _).mono ?_; rintro e w' ⟨rfl, rfl⟩
 rw [← HY.out]
 go_wp2
 go_ret
 refine ⟨ret_int ?_, rfl⟩
 unfold Md.add
 rw [← HX.out, ← HY.out, Md.P_eq]; omega
set_option maxRecDepth 100000 in
set_option maxHeartbeats 1000000 in
theorem mul64_any (x y : Nat) (hx : x < 18446744073709551616) (hy : y < 18446744073709551616) (w : World) :
  Calls Tryz.prog 157 #[.int .u64 x, .int .u64 y] w fun e w' => e = .returned (.tuple #[.int .u64 ((x * y / 18446744073709551616 : Nat) : Int), .int .u64 ((x * y % 18446744073709551616 : Nat) : Int)]) ∧ w = w' := by
 obtain ⟨bd, bt, bw, hhi⟩ := Lib.mul64_hi x y hx hy
 have ba := Lib.half_mul_le (a := x / 4294967296) (b := y / 4294967296) (by omega) (by omega)
 have bb := Lib.half_mul_le (a := x / 4294967296) (b := y % 4294967296) (by omega) (by omega)
 have bc := Lib.half_mul_le (a := x % 4294967296) (b := y / 4294967296) (by omega) (by omega)
 have ba' : x / 4294967296 * (y / 4294967296) < 18446744073709551616 := by omega
 have bb' : x / 4294967296 * (y % 4294967296) < 18446744073709551616 := by omega
 have bc' : x % 4294967296 * (y / 4294967296) < 18446744073709551616 := by omega
 have bh1 : x / 4294967296 * (y / 4294967296) + (x / 4294967296 * (y % 4294967296) + x % 4294967296 * (y % 4294967296) / 4294967296) / 4294967296 < 18446744073709551616 := by omega
 have bh : x / 4294967296 * (y / 4294967296) + (x / 4294967296 * (y % 4294967296) + x % 4294967296 * (y % 4294967296) / 4294967296) / 4294967296 + ((x / 4294967296 * (y % 4294967296) + x % 4294967296 * (y % 4294967296) / 4294967296) % 4294967296 + x % 4294967296 * (y / 4294967296)) / 4294967296 < 18446744073709551616 := by omega
 go_enter Tryz.func157, Tryz.ntmps157
 go_wp2
 simp only [Mul64.maskN x hx, Mul64.maskN y hy, Mul64.divN, Mul64.mulN, Mul64.addN, Mul64.wrapN _ bd, Mul64.wrapN _ bb', Mul64.wrapN _ bt, Mul64.maskN _ bt, Mul64.wrapN _ bc', Mul64.wrapN _ bw, Mul64.wrapN _ ba', Mul64.wrapN _ bh1, Mul64.wrapN _ bh, Mul64.wrapM (x * y)]
 rw [hhi]
 go_ret2
 exact ⟨rfl, rfl⟩
set_option maxRecDepth 100000 in
theorem len64_P (w : World) : Calls Tryz.prog 98 #[.int .u64 2305843009213693951] w fun e w' => e = .returned (.int .i64 61) ∧ w = w' := by
 go_enter Tryz.func98, Tryz.ntmps98
 go_wp2
 go_ret
 exact ⟨ret_int (by decide +kernel), rfl⟩
theorem lz64_P (w : World) : Calls Tryz.prog 200 #[.int .u64 2305843009213693951] w fun e w' => e = .returned (.int .i64 3) ∧ w = w' := by
 go_enter Tryz.func200, Tryz.ntmps200
 go_wp2_with fail
 refine (len64_P _).mono ?_; rintro e w' ⟨rfl, rfl⟩
 go_wp2
 go_ret
 exact ⟨rfl, rfl⟩
def DivPost (hi lo : Nat) (w : World) (e : Ending) (w' : World) : Prop := ∃ q : Int, e = .returned (.tuple #[.int .u64 q, .int .u64 (((hi * 18446744073709551616 + lo) % 2305843009213693951 : Nat) : Int)]) ∧ ∃ j, w' = w.drewN j
theorem div64_low (lo : Nat) (hl : lo < 18446744073709551616) (w : World) :
  Calls Tryz.prog 186 #[.int .u64 0, .int .u64 (lo : Int), .int .u64 2305843009213693951] w (DivPost 0 lo w) := by
 go_enter Tryz.func186, Tryz.ntmps186
 go_wp2_with fail
 go_quiet (fail)
 go_wp2
 go_ret2
 exact ⟨_, by simp; rfl, _, rfl⟩
theorem ret_tup {q a b : Int} (h : a = b) : Ending.returned (.tuple #[.int .u64 q, .int .u64 a]) = .returned (.tuple #[.int .u64 q, .int .u64 b]) := by rw [h]
theorem step_wrap (u v q : Nat) (hu : u < 18446744073709551608) (hv : v < 4294967296) (hq : q = (u * 4294967296 + v) / 18446744073709551608) :
  IntKind.u64.wrap (IntKind.u64.wrap (IntKind.u64.wrap ((u : Int) * 4294967296) + (v : Int)) - IntKind.u64.wrap ((q : Int) * 18446744073709551608)) = (((u * 4294967296 + v) % 18446744073709551608 : Nat) : Int) := by
 rw [IntKind.wrap_u64, IntKind.wrap_u64, IntKind.wrap_u64, IntKind.wrap_u64]
 subst hq
 omega
theorem or_hl (hi lo : Nat) (hh : hi < 2305843009213693951) (hl : lo < 18446744073709551616) : bits .or .u64 ((hi : Int) * 8) ((lo : Int) / 2305843009213693952) = ((hi * 8 + lo / 2305843009213693952 : Nat) : Int) := by
 have h := bits_or_u64_nat (hi * 8) (lo / 2305843009213693952) (by omega) (by omega)
 have e : hi * 8 ||| lo / 2305843009213693952 = hi * 8 + lo / 2305843009213693952 := by
  have := Nat.shiftLeft_add_eq_or_of_lt (a := hi) (b := lo / 2305843009213693952) (i := 3) (by omega)
  rw [Nat.shiftLeft_eq] at this
  exact this.symm
 rw [e] at h
 exact h
theorem wrapN8 (lo : Nat) : IntKind.u64.wrap ((lo : Int) * 8) = ((lo * 8 % 18446744073709551616 : Nat) : Int) := by rw [IntKind.wrap_u64]; omega
theorem and_y : bits .and .u64 18446744073709551608 4294967295 = 4294967288 := by decide +kernel
open Md in
set_option maxRecDepth 100000 in
theorem div64_high (hi lo : Nat) (h0 : 0 < hi) (hh : hi < 2305843009213693951) (hl : lo < 18446744073709551616) (w : World) :
  Calls Tryz.prog 186 #[.int .u64 (hi : Int), .int .u64 (lo : Int), .int .u64 2305843009213693951] w (DivPost hi lo w) := by
 have e0 : ((hi : Int) == 0) = false := by simp; omega
 have e1 : ¬ (2305843009213693951 : Int) ≤ (hi : Int) := by omega
 have a1 := and_y
 go_enter Tryz.func186, Tryz.ntmps186
 go_wp2_with fail
 refine (lz64_P _).mono ?_; rintro e w' ⟨rfl, rfl⟩
 go_upto_region 15 with (fail)
 simp only [or_hl hi lo hh hl, wrapN8 lo, Mul64.divN]
 rw [Mul64.maskN _ (Nat.mod_lt _ (by omega))]
 obtain ⟨u, hu⟩ : ∃ u, u = hi * 8 + lo / 2305843009213693952 := ⟨_, rfl⟩
 obtain ⟨u1, h1⟩ : ∃ u1, u1 = lo * 8 % 18446744073709551616 / 4294967296 := ⟨_, rfl⟩
 obtain ⟨u0, h0'⟩ : ∃ u0, u0 = lo * 8 % 18446744073709551616 % 4294967296 := ⟨_, rfl⟩
 rw [← hu, ← h1, ← h0']
 have bu : u < 18446744073709551608 := by omega
 have bu' : u ≤ 18446744073709551607 := by omega
 have b1 : u1 < 4294967296 := by omega
 have b0 : u0 < 4294967296 := by omega
 have HU := hid hu
 have H1 := hid h1
 have H0 := hid h0'
 clear hu h1 h0' a1
 have st := qr_start u u1 bu b1
 go_upto_block 0 with (fail)
 obtain ⟨Q, hQ⟩ : ∃ Q, Q = (u * 4294967296 + u1) / 18446744073709551608 := ⟨_, rfl⟩
 have HQ := hid hQ
 clear hQ
 go_cut [15, 16] (fun s15 s16 wx => s15 = .int .u64 (Q : Int) ∧ w = wx)
 case first =>
  go_wp2_with fail
  go_loop [15, 16] (fun q r => ∃ q1 r1 : Nat, q = .int .u64 (q1 : Int) ∧ r = .int .u64 (r1 : Int) ∧ QR u u1 q1 r1 ∧ r1 < 4294967296) (fun q r => (intOf q).toNat)
  case atStart => exact ⟨u / 4294967295, u - u / 4294967295 * 4294967295, rfl, by go_num, st, by omega⟩
  case round =>
   obtain ⟨q1, r1, rfl, rfl, hqr, hr⟩ := hrel
   have hq := hqr.2.2
   have HR := hid hqr
   clear hqr st
   by_cases hbig : 4294967296 ≤ q1
   ·
    have hb1 : (4294967296 : Int) ≤ (q1 : Int) := by omega
    obtain ⟨hp, hd⟩ := qr_down bu b1 HR.out (.inl hbig)
    have HD := hid hd
    clear hd
    by_cases hbr : 4294967296 ≤ r1 + 4294967295
    ·
     have hb2 : (4294967296 : Int) ≤ (r1 : Int) + 4294967295 := by omega
     have hf : Hid (q1 - 1 = Q) := hid (by rw [HQ.out]; exact qr_break bu b1 HD.out (by omega) hbr)
     go_wp2_with fail
     go_meet
     exact ⟨by rw [← hf.out]; go_num, rfl⟩
    ·
     have hb2 : ¬ (4294967296 : Int) ≤ (r1 : Int) + 4294967295 := by omega
     go_wp2_with fail
     go_round
     case rel => exact ⟨q1 - 1, r1 + 4294967295, by go_num, by go_num, HD.out, by omega⟩
     case measure => simp [intOf]; omega
   ·
    have hb1 : ¬ (4294967296 : Int) ≤ (q1 : Int) := by omega
    by_cases ht : 4294967296 * r1 + u1 < q1 * 4294967288
    ·
     have ht' : (4294967296 : Int) * (r1 : Int) + (u1 : Int) < (q1 : Int) * 4294967288 := by omega
     obtain ⟨hp, hd⟩ := qr_down bu b1 HR.out (.inr ht)
     have HD := hid hd
     clear hd
     by_cases hbr : 4294967296 ≤ r1 + 4294967295
     ·
      have hb2 : (4294967296 : Int) ≤ (r1 : Int) + 4294967295 := by omega
      have hf : Hid (q1 - 1 = Q) := hid (by rw [HQ.out]; exact qr_break bu b1 HD.out (by omega) hbr)
      go_wp2_with fail
      go_meet
      exact ⟨by rw [← hf.out]; go_num, rfl⟩
     ·
      have hb2 : ¬ (4294967296 : Int) ≤ (r1 : Int) + 4294967295 := by omega
      go_wp2_with fail
      go_round
      case rel => exact ⟨q1 - 1, r1 + 4294967295, by go_num, by go_num, HD.out, by omega⟩
      case measure => simp [intOf]; omega
    ·
     have ht' : ¬ (4294967296 : Int) * (r1 : Int) + (u1 : Int) < (q1 : Int) * 4294967288 := by omega
     have hf : Hid (q1 = Q) := hid (by rw [HQ.out]; exact qr_stop bu b1 HR.out ht)
     go_wp2_with fail
     go_meet
     exact ⟨by rw [hf.out], rfl⟩
 case rest =>
 obtain ⟨rfl, rfl⟩ := hcut
 obtain ⟨v, hv⟩ : ∃ v, v = (u * 4294967296 + u1) % 18446744073709551608 := ⟨_, rfl⟩
 have bv : v < 18446744073709551608 := by omega
 have bv' : v ≤ 18446744073709551607 := by omega
 have HV := hid hv
 clear hv
 go_upto_region 21 with (fail)
 go_cut [17] (fun s17 wx => s17 = .int .u64 (v : Int) ∧ w = wx)
 case first =>
  go_wp2_with fail
  go_meet
  exact ⟨by rw [step_wrap u u1 Q bu b1 HQ.out, ← HV.out], rfl⟩
 case rest =>
 obtain ⟨rfl, rfl⟩ := hcut
 have st := qr_start v u0 bv b0
 obtain ⟨Q2, hQ2⟩ : ∃ Q2, Q2 = (v * 4294967296 + u0) / 18446744073709551608 := ⟨_, rfl⟩
 have HQ2 := hid hQ2
 clear hQ2
 go_upto_block 2 with (fail)
 go_cut [16, 18] (fun s16 s15 wx => s15 = .int .u64 (Q2 : Int) ∧ w = wx)
 case first =>
  go_wp2_with fail
  go_loop [16, 18] (fun r q => ∃ q1 r1 : Nat, q = .int .u64 (q1 : Int) ∧ r = .int .u64 (r1 : Int) ∧ QR v u0 q1 r1 ∧ r1 < 4294967296) (fun r q => (intOf q).toNat)
  case atStart => exact ⟨v / 4294967295, v - v / 4294967295 * 4294967295, rfl, by go_num, st, by omega⟩
  case round =>
   obtain ⟨q1, r1, rfl, rfl, hqr, hr⟩ := hrel
   have hq := hqr.2.2
   have HR := hid hqr
   clear hqr st
   by_cases hbig : 4294967296 ≤ q1
   ·
    have hb1 : (4294967296 : Int) ≤ (q1 : Int) := by omega
    obtain ⟨hp, hd⟩ := qr_down bv b0 HR.out (.inl hbig)
    have HD := hid hd
    clear hd
    by_cases hbr : 4294967296 ≤ r1 + 4294967295
    ·
     have hb2 : (4294967296 : Int) ≤ (r1 : Int) + 4294967295 := by omega
     have hf : Hid (q1 - 1 = Q2) := hid (by rw [HQ2.out]; exact qr_break bv b0 HD.out (by omega) hbr)
     go_wp2_with fail
     go_meet
     exact ⟨by rw [← hf.out]; go_num, rfl⟩
    ·
     have hb2 : ¬ (4294967296 : Int) ≤ (r1 : Int) + 4294967295 := by omega
     go_wp2_with fail
     go_round
     case rel => exact ⟨q1 - 1, r1 + 4294967295, by go_num, by go_num, HD.out, by omega⟩
     case measure => simp [intOf]; omega
   ·
    have hb1 : ¬ (4294967296 : Int) ≤ (q1 : Int) := by omega
    by_cases ht : 4294967296 * r1 + u0 < q1 * 4294967288
    ·
     have ht' : (4294967296 : Int) * (r1 : Int) + (u0 : Int) < (q1 : Int) * 4294967288 := by omega
     obtain ⟨hp, hd⟩ := qr_down bv b0 HR.out (.inr ht)
     have HD := hid hd
     clear hd
     by_cases hbr : 4294967296 ≤ r1 + 4294967295
     ·
      have hb2 : (4294967296 : Int) ≤ (r1 : Int) + 4294967295 := by omega
      have hf : Hid (q1 - 1 = Q2) := hid (by rw [HQ2.out]; exact qr_break bv b0 HD.out (by omega) hbr)
      go_wp2_with fail
      go_meet
      exact ⟨by rw [← hf.out]; go_num, rfl⟩
     ·
      have hb2 : ¬ (4294967296 : Int) ≤ (r1 : Int) + 4294967295 := by omega
      go_wp2_with fail
      go_round
      case rel => exact ⟨q1 - 1, r1 + 4294967295, by go_num, by go_num, HD.out, by omega⟩
      case measure => simp [intOf]; omega
    ·
     have ht' : ¬ (4294967296 : Int) * (r1 : Int) + (u0 : Int) < (q1 : Int) * 4294967288 := by omega
     have hf : Hid (q1 = Q2) := hid (by rw [HQ2.out]; exact qr_stop bv b0 HR.out ht)
     go_wp2_with fail
     go_meet
     exact ⟨by rw [hf.out], rfl⟩
 case rest =>
 obtain ⟨rfl, rfl⟩ := hcut
 go_wp2
 go_ret2
 refine ⟨_, ret_tup ?_, 0, rfl⟩
 rw [step_wrap v u0 Q2 bv b0 HQ2.out]
 have := rem_all hi lo hh hl u _ u1 u0 v _ HU.out rfl H1.out H0.out HV.out rfl
 omega
theorem rem64_any (hi lo : Nat) (hh : hi < 2305843009213693951) (hl : lo < 18446744073709551616) (w : World) :
  Calls Tryz.prog 158 #[.int .u64 (hi : Int), .int .u64 (lo : Int), .int .u64 2305843009213693951] w fun e w' => e = .returned (.int .u64 (((hi * 18446744073709551616 + lo) % 2305843009213693951 : Nat) : Int)) ∧ Qt w w' := by
 have em : (hi : Int) % 2305843009213693951 = (hi : Int) := by omega
 have D : Hid (Calls Tryz.prog 186 #[.int .u64 (hi : Int), .int .u64 (lo : Int), .int .u64 2305843009213693951] w (DivPost hi lo w)) := hid (by
  rcases Nat.eq_zero_or_pos hi with h | h
  · subst h; exact div64_low lo hl w
  · exact div64_high hi lo h hh hl w)
 obtain ⟨r, hr⟩ : ∃ r, r = (hi * 18446744073709551616 + lo) % 2305843009213693951 := ⟨_, rfl⟩
 have HR := hid hr
 rw [← hr]
 clear hr
 go_enter Tryz.func158, Tryz.ntmps158
 go_wp2_with fail
 refine D.out.mono ?_; rintro e w' ⟨q, rfl, j, rfl⟩
 rw [← HR.out]
 go_wp2
 go_ret
 exact ⟨rfl, j, rfl⟩
theorem mul_rem (a b : Nat) : (a % Md.P * (b % Md.P) / 18446744073709551616 * 18446744073709551616 + a % Md.P * (b % Md.P) % 18446744073709551616) % 2305843009213693951 = Md.mul a b := by
 rw [Nat.div_add_mod']; rfl
theorem mul_hi_lt (a b : Nat) : a % Md.P * (b % Md.P) / 18446744073709551616 < 2305843009213693951 := by
 have ha := Nat.mod_lt a Md.P_pos
 have hb := Nat.mod_lt b Md.P_pos
 rw [Md.P_eq] at *
 have : a % 2305843009213693951 * (b % 2305843009213693951) ≤ 2305843009213693951 * 2305843009213693951 := Nat.mul_le_mul (by omega) (by omega)
 omega
theorem modMul_any (a b : Nat) (ha : a < 18446744073709551616) (hb : b < 18446744073709551616) (w : World) :
  Calls Tryz.prog 125 #[.int .u64 (a : Int), .int .u64 (b : Int)] w fun e w' => e = .returned (.int .u64 ((Md.mul a b : Nat) : Int)) ∧ Qt w w' := by
 obtain ⟨x, hx⟩ : ∃ x, x = a % Md.P := ⟨_, rfl⟩
 obtain ⟨y, hy⟩ : ∃ y, y = b % Md.P := ⟨_, rfl⟩
 have lx : x < 18446744073709551616 := by rw [hx, Md.P_eq]; omega
 have ly : y < 18446744073709551616 := by rw [hy, Md.P_eq]; omega
 have HH := hid (mul_hi_lt a b)
 have HF := hid (mul_rem a b)
 rw [← hx, ← hy] at HH HF
 have HX := hid hx
 have HY := hid hy
 clear hx hy
 have HL : Hid (x * y % 18446744073709551616 < 18446744073709551616) := hid (Nat.mod_lt _ (by omega))
 go_enter Tryz.func125, Tryz.ntmps125
 go_wp2_with fail
 refine (modOf_any a ha _).mono ?_; rintro e w' ⟨rfl, rfl⟩
 rw [← HX.out]
 go_wp2_with fail
 refine (modOf_any b hb _).mono ?_; rintro e w' ⟨rfl, rfl⟩
 rw [← HY.out]
 go_wp2_with fail
 refine (mul64_any x y lx ly _).mono ?_; rintro e w' ⟨rfl, rfl⟩
 generalize x * y / 18446744073709551616 = hi at *
 generalize x * y % 18446744073709551616 = lo at *
 go_wp2_with fail
 refine (rem64_any hi lo HH.out HL.out _).mono ?_; rintro e w' ⟨rfl, hq⟩
 rw [HF.out]
 go_wp2
 go_ret
 exact ⟨rfl, hq⟩
theorem small_mul (a b : Nat) : Md.mul a b < 18446744073709551616 := by have := Md.mul_lt a b; rw [Md.P_eq] at this; omega
section
variable {x y z : Int} {w : World}
theorem modAdd_z (a b : Nat) (hx : x = (a : Int)) (hy : y = (b : Int)) (ha : a < 18446744073709551616) (hb : b < 18446744073709551616) (hz : ((Md.add a b : Nat) : Int) = z) :
  Calls Tryz.prog 124 #[.int .u64 x, .int .u64 y] w fun e w' => e = .returned (.int .u64 z) ∧ w = w' := by subst hx hy hz; exact modAdd_any a b ha hb w
theorem modMul_z (a b : Nat) (hx : x = (a : Int)) (hy : y = (b : Int)) (ha : a < 18446744073709551616) (hb : b < 18446744073709551616) (hz : ((Md.mul a b : Nat) : Int) = z) :
  Calls Tryz.prog 125 #[.int .u64 x, .int .u64 y] w fun e w' => e = .returned (.int .u64 z) ∧ Qt w w' := by subst hx hy hz; exact modMul_any a b ha hb w
end
theorem k1 : ((Md.mul 1152921504606846976 2 : Nat) : Int) = 1 := by decide +kernel
theorem k2 : ((Md.sub 0 1 : Nat) : Int) = 2305843009213693950 := by decide +kernel
theorem k3 : ((18446744073709551615 % Md.P : Nat) : Int) = 7 := by decide +kernel
theorem k4 : ((Md.inv 2 : Nat) : Int) = 1152921504606846976 := by rw [Md.inv_two]; rfl
theorem k5 : ((Md.inv 0 : Nat) : Int) = 0 := by rw [Md.inv_zero 0 (Nat.zero_mod _)]; rfl
set_option linter.unusedSimpArgs false
attribute [local go_sem ↓] Go.wp_at_zero Go.wp_at_succ
theorem Tbys : SlT 89 5 (.int .u8 0) 1 1 := SlT.mk Tryz.underlying89 (by kernel_rfl) rfl (by decide) (by decide)
section
variable {ops : Array Oper} {rest : List Oper} {o : Oper} {a : Act} {Q : Exit → Act → World → Prop} {w : World}
end
section
variable {ops : Array Oper} {rest : List Oper} {o : Oper} {a : Act} {Q : Exit → Act → World → Prop} {w : World}
end
def part (l : Sn.By) (at_ k : Nat) : Sn.By := (l.drop at_).take k
end Go.Proofs.YtahodfikhocobaaGreatDoor
/- Contracts of part.place and part.root. -/
namespace Go.Proofs.YtahodfikhocobaaGreatDoor
open Go.RowKit Pt
set_option linter.unusedVariables false

theorem place_any (n v : Int) (w : World) :
  Calls Tryz.prog 94 #[.int .i64 n, .int .i64 v] w fun e w' => e = .returned (.bool (placeB n v)) ∧ w = w' := by
 by_cases h1 : 0 ≤ v
 ·
  go_enter Tryz.func94, Tryz.ntmps94
  go_wp2
  go_ret
  exact ⟨ret_bool (by simp [placeB, h1]), rfl⟩
 ·
  go_enter Tryz.func94, Tryz.ntmps94
  go_wp2
  go_ret
  exact ⟨ret_bool (by simp [placeB]; omega), rfl⟩
theorem place_is {n v : Int} (b : Bool) (h : placeB n v = b) (w : World) :
  Calls Tryz.prog 94 #[.int .i64 n, .int .i64 v] w fun e w' => e = .returned (.bool b) ∧ w = w' := by
 rw [← h]; exact place_any n v w
def Rooted (k : Nat) (P : List Int) (v : Int) (w : World) (e : Ending) (w' : World) : Prop :=
 e = .returned (.int .i64 (g P v)) ∧ ∃ zs, Blk w' k 3 (ints zs) ∧ Uf zs P ∧ Only k w w'
def RootRel (k : Nat) (P : List Int) (v0 : Int) (w : World) (v : Value) (wr : World) : Prop :=
 ∃ (x : Int) (zs : List Int), v = .int .i64 x ∧ InR P.length x ∧ g P x = g P v0 ∧ Blk wr k 3 (ints zs) ∧ Uf zs P ∧ Only k w wr
theorem root_any (k n : Nat) (zs P : List Int) (v : Int) (w : World) (hn : zs.length = n) (hm : n ≤ maxLen) (hb : Blk w k 3 (ints zs)) (hu : Uf zs P) (hv : InR P.length v) :
  Calls Tryz.prog 95 #[.slice (some ⟨k, 0, none⟩) n n, .int .i64 v] w (Rooted k P v w) := by
 unfold maxLen at hm
 have HN := hid hn
 clear hn
 go_enter Tryz.func95, Tryz.ntmps95
 go_wp2
 go_loopw [1] (fun x wr => RootRel k P v w x wr) (fun x _ => (intOf x).toNat)
 case atStart => exact ⟨v, zs, rfl, hv, rfl, hb, hu, Only.refl _ _⟩
 case round =>
  obtain ⟨x, ys, rfl, hx, hg, hb', hu', ho⟩ := hrel
  have hl : ys.length = n := by rw [hu'.1, ← hu.1]; exact HN.out
  have hy := hu'.inr hx
  have hx1 := hu'.2 x hx
  have hy1 := hu'.2 _ hy
  have c1 : wr.cell? ⟨k, x.toNat, none⟩ = some (.int .i64 (g ys x)) := by
   rw [hb'.cell, ints_at _ _ (by rw [hu'.1]; unfold InR at hx; omega)]; rfl
  have c2 : wr.cell? ⟨k, (g ys x).toNat, none⟩ = some (.int .i64 (g ys (g ys x))) := by
   rw [hb'.cell, ints_at _ _ (by rw [hu'.1]; unfold InR at hy; omega)]; rfl
  have f1 := hb'.frozen x.toNat
  have b1 : 0 ≤ x := hx.1
  have b2 : x < n := by have := hx.2; rw [← hu'.1, hl] at this; exact this
  have b3 : 0 ≤ g ys x := hy.1
  have b4 : g ys x ≤ x := hx1.2.1
  have HP := hid (And.intro hg hx1)
  have HY := hid (And.intro hy hy1)
  have HU := hid hu'
  clear hg hx1 hy1 hu' hy
  by_cases he : g ys x = x
  ·
   have HE := hid he
   have e1 : (g ys x != x) = false := by simp [he]
   clear he c2
   go_wp2
   go_ret
   have h1 := HP.out
   exact ⟨ret_int (by rw [← h1.1, h1.2.2.2.2 HE.out]), ys, hb', HU.out, ho⟩
  ·
   have e1 : (g ys x != x) = true := by simp [he]
   go_wp2
   go_roundw
   case rel =>
    have h1 := HP.out
    have h2 := HY.out
    refine ⟨_, ys.set x.toNat (g ys (g ys x)), rfl, HU.out.inr h2.1, ?_, ?_, HU.out.short hx, ho.put _ _⟩
    · rw [h2.2.2.2.1, h1.2.2.2.1, h1.1]
    · rw [← ints_set]; exact hb'.put _ _
   case measure =>
    have h1 := HP.out
    have h2 := HY.out
    simp [intOf]; omega
end Go.Proofs.YtahodfikhocobaaGreatDoor

/- Contracts of part.Right, part.single, slices.Clone. -/
namespace Go.Proofs.YtahodfikhocobaaGreatDoor
open Go.RowKit Pt
set_option linter.unusedVariables false

theorem all_range_false {n k : Nat} (hk : k < n) {f : Nat → Bool} (h : f k = false) : (List.range n).all f = false := by
 rw [List.all_eq_false]; exact ⟨k, by simpa using hk, by simp [h]⟩
theorem all_range_true {n : Nat} {f : Nat → Bool} (h : ∀ i, i < n → f i = true) : (List.range n).all f = true := by
 rw [List.all_eq_true]; exact fun k hk => h k (by simpa using hk)
set_option maxHeartbeats 400000 in
theorem right_any (v : Value) (n B : Nat) (p : List Int) (w : World) (hs : Sl w B 1 v n (ints p)) :
  Calls Tryz.prog 96 #[v] w fun e w' => e = .returned (.bool (rightB p)) ∧ w = w' := by
 obtain ⟨A, c, rfl, hnc, hcm, hl, hx⟩ := hs
 have hn : p.length = n := by rw [len_ints] at hl; omega
 subst hn
 have hm : p.length ≤ 9223372036854775807 := by unfold maxLen at hcm; omega
 clear hl hcm
 have HX := hid hx
 clear hx
 go_enter Tryz.func96, Tryz.ntmps96
 go_wp2
 go_loop [7] (fun i => ∃ k : Nat, k ≤ p.length ∧ i = .int .i64 k ∧ Hid (∀ j, j < k → okAt p j = true)) (fun i => p.length - (intOf i).toNat)
 case atStart => exact ⟨0, Nat.zero_le _, rfl, fun j hj => by omega⟩
 case round =>
  obtain ⟨k, hk, rfl, hall⟩ := hrel
  by_cases hlt : k < p.length
  ·
   obtain ⟨b, o, rfl, hb, hc⟩ := HX.out (by omega)
   have c1 := ints_cell hc hlt
   obtain ⟨x, hxx⟩ : ∃ x, x = p.getD k 0 := ⟨_, rfl⟩
   rw [← hxx] at c1
   have hgx : g p (k : Int) = x := by rw [hxx]; simp [g]
   have HG := hid hgx
   clear hgx hxx hc
   cases hp : placeB (p.length : Int) x
   ·
    have HP := hid hp
    clear hp
    go_wp2_with (go_at_call 94; refine (place_is false HP.out _).mono ?_; rintro e w' ⟨rfl, rfl⟩)
    go_ret
    refine ⟨ret_bool ?_, rfl⟩
    exact (all_range_false hlt (by unfold okAt; rw [HG.out, HP.out]; rfl)).symm
   ·
    have HP := hid hp
    have hp' := (placeB_iff _ _).1 hp
    have x1 : 0 ≤ x := hp'.1
    have x2 : x < p.length := hp'.2
    clear hp hp'
    by_cases hgt : x ≤ k
    ·
     have c2 : w.cell? ⟨b, o + x.toNat, none⟩ = some (.int .i64 (g p x)) := ints_cell (by obtain ⟨b', o', h1, _, h2⟩ := HX.out (by omega); injection h1 with h1; injection h1 with h1 h3; subst h1; subst h3; exact h2) (by omega)
     obtain ⟨y, hy⟩ : ∃ y, y = g p x := ⟨_, rfl⟩
     rw [← hy] at c2
     have HY := hid hy
     clear hy
     by_cases he : y = x
     ·
      subst he
      go_wp2_with (go_at_call 94; refine (place_is true HP.out _).mono ?_; rintro e w' ⟨rfl, rfl⟩)
      go_round
      case rel =>
       refine ⟨k + 1, by omega, by go_num, hid fun j hj => ?_⟩
       by_cases hjk : j = k
       ·
        subst hjk
        unfold okAt
        rw [HG.out, HP.out, ← HY.out]
        simp [hgt]
       · exact hall.out j (by omega)
      case measure => simp [intOf]; omega
     ·
      have e1 : (y != x) = true := by simp [he]
      have HE := hid he
      clear he
      go_wp2_with (go_at_call 94; refine (place_is true HP.out _).mono ?_; rintro e w' ⟨rfl, rfl⟩)
      go_ret
      refine ⟨ret_bool ?_, rfl⟩
      exact (all_range_false hlt (by unfold okAt; rw [HG.out, ← HY.out]; simp [HE.out])).symm
    ·
     go_wp2_with (go_at_call 94; refine (place_is true HP.out _).mono ?_; rintro e w' ⟨rfl, rfl⟩)
     go_ret
     refine ⟨ret_bool ?_, rfl⟩
     exact (all_range_false hlt (by unfold okAt; rw [HG.out]; simp; intros; omega)).symm
  ·
   go_wp2
   go_ret
   exact ⟨ret_bool (all_range_true fun i hi => hall.out i (by omega)).symm, rfl⟩
end Go.Proofs.YtahodfikhocobaaGreatDoor

/- Contracts of part.single, slices.Clone. -/
namespace Go.Proofs.YtahodfikhocobaaGreatDoor
open Go.RowKit Pt
set_option linter.unusedVariables false

theorem single_any (n : Nat) (hn : n ≤ 17592186044416) (w : World) :
  Calls Tryz.prog 93 #[.int .i64 n] w fun e w' => e = .returned (.slice (some ⟨w.heap.size, 0, none⟩) n n) ∧ Blk w' w.heap.size 3 (ints (idl n)) ∧ Below w.heap.size w w' ∧ w.heap.size < w'.heap.size := by
 have hmk := fun w => run_make_ints n hn w
 go_enter Tryz.func93, Tryz.ntmps93
 go_wp2
 have hb0 : Blk (w.alloc (.cells (ints (List.replicate n 0)).toArray 3)) w.heap.size 3 (ints (fillI n 0)) := by rw [fillI_zero]; exact Blk.new _ _ _
 have hw0 : Below w.heap.size w (w.alloc (.cells (ints (List.replicate n 0)).toArray 3)) := (Below.refl _ _).alloc (Nat.le_refl _) _
 clear hmk
 go_loopw [9] (fun i wr => ∃ k : Nat, k ≤ n ∧ i = .int .i64 k ∧ Blk wr w.heap.size 3 (ints (fillI n k)) ∧ Below w.heap.size w wr) (fun i _ => n - (intOf i).toNat)
 case atStart => exact ⟨0, Nat.zero_le _, rfl, hb0, hw0⟩
 case round =>
  obtain ⟨k, hk, rfl, hb, hw⟩ := hrel
  clear hb0 hw0
  by_cases hlt : k < n
  ·
   have c1 : wr.cell? ⟨w.heap.size, k, none⟩ = some (.int .i64 ((fillI n k).getD k 0)) := by rw [hb.cell, ints_at _ _ (by rw [len_fillI]; exact hlt)]
   have f1 := hb.frozen k
   generalize (fillI n k).getD k 0 = x at c1
   go_wp2
   go_roundw
   case rel => exact ⟨k + 1, by omega, by go_num, by rw [← fillI_set, ← ints_set]; exact hb.put _ _, hw.setCell (Nat.le_refl _) _⟩
   case measure => simp [intOf]; omega
  ·
   have hkn : k = n := by omega
   subst hkn
   go_wp2
   go_ret
   exact ⟨rfl, by rw [← fillI_all]; exact hb, hw, hb.lt⟩
end Go.Proofs.YtahodfikhocobaaGreatDoor

/- Contracts of part.Many, part.Class, part.Refines. -/
namespace Go.Proofs.YtahodfikhocobaaGreatDoor
open Go.RowKit Pt
set_option linter.unusedVariables false

theorem right_is {v : Value} {n B : Nat} {p : List Int} {w : World} (b : Bool) (h : rightB p = b) (hs : Sl w B 1 v n (ints p)) :
  Calls Tryz.prog 96 #[v] w fun e w' => e = .returned (.bool b) ∧ w = w' := by
 rw [← h]; exact right_any v n B p w hs
theorem many_any (v : Value) (n B : Nat) (p : List Int) (w : World) (hs : Sl w B 1 v n (ints p)) :
  Calls Tryz.prog 71 #[v] w fun e w' => e = .returned (.int .i64 (manyZ p)) ∧ w = w' := by
 have HS := hid hs
 obtain ⟨A, c, rfl, hnc, hcm, hl, hx⟩ := hs
 have hn : p.length = n := by rw [len_ints] at hl; omega
 subst hn
 have hm : p.length ≤ 9223372036854775807 := by unfold maxLen at hcm; omega
 clear hl hcm
 have HX := hid hx
 clear hx
 cases hr : rightB p
 ·
  have HR := hid hr
  clear hr
  go_enter Tryz.func71, Tryz.ntmps71
  go_wp2_with (go_at_call 96; refine (right_is false HR.out HS.out).mono ?_; rintro e w' ⟨rfl, rfl⟩)
  go_ret
  exact ⟨ret_int (by unfold manyZ; rw [HR.out]; rfl), rfl⟩
 ·
  have HR := hid hr
  clear hr
  go_enter Tryz.func71, Tryz.ntmps71
  go_wp2_with (go_at_call 96; refine (right_is true HR.out HS.out).mono ?_; rintro e w' ⟨rfl, rfl⟩)
  go_loop [3, 11] (fun m i => ∃ k : Nat, k ≤ p.length ∧ i = .int .i64 k ∧ m = .int .i64 (cntK p k)) (fun _ i => p.length - (intOf i).toNat)
  case atStart => exact ⟨0, Nat.zero_le _, rfl, rfl⟩
  case round =>
   obtain ⟨k, hk, rfl, rfl⟩ := hrel
   have hck := cntK_le p k
   by_cases hlt : k < p.length
   ·
    obtain ⟨b, o, rfl, hb, hc⟩ := HX.out (by omega)
    have c1 := ints_cell hc hlt
    clear hc
    have hgx : g p (k : Int) = p.getD k 0 := by simp [g]
    generalize p.getD k 0 = x at c1 hgx
    have HG := hid hgx
    have HC := hid (cntK_step p k)
    clear hgx
    generalize cntK p k = m at *
    by_cases he : (k : Int) = x
    ·
     have e1 : ((k : Int) == x) = true := by simp [he]
     have HE := hid he
     clear he
     go_wp2
     go_round
     case rel => exact ⟨k + 1, by omega, by go_num, by rw [HC.out, if_pos (by rw [HG.out, HE.out])]; go_num⟩
     case measure => simp [intOf]; omega
    ·
     have e1 : ((k : Int) == x) = false := by simp [he]
     have HE := hid he
     clear he
     go_wp2
     go_round
     case rel => exact ⟨k + 1, by omega, by go_num, by rw [HC.out, if_neg (by rw [HG.out]; exact fun h => HE.out h.symm)]; go_num⟩
     case measure => simp [intOf]; omega
   ·
    have hkn : k = p.length := by omega
    subst hkn
    go_wp2
    go_ret
    exact ⟨ret_int (by unfold manyZ; rw [HR.out, cntK_all]; rfl), rfl⟩
theorem class_any (v : Value) (n B : Nat) (p : List Int) (u : Int) (w : World) (hs : Sl w B 1 v n (ints p)) (hB : B ≤ w.heap.size) (hr : n ≤ 17592186044416) :
  Calls Tryz.prog 72 #[v, .int .i64 u] w fun e w' => ∃ v', e = .returned v' ∧ w'.ownsRow w.heap.size 3 1 v' (classL p u).length (ints (classL p u)) ∧ Below w.heap.size w w' := by
 have HS := hid hs
 obtain ⟨A, c, rfl, hnc, hcm, hl, hx⟩ := hs
 have hn : p.length = n := by rw [len_ints] at hl; omega
 subst hn
 clear hl hcm
 have HX := hid hx
 clear hx
 cases hr : rightB p
 ·
  have HR := hid hr
  clear hr
  go_enter Tryz.func72, Tryz.ntmps72
  go_wp2_with (go_at_call 96; refine (right_is false HR.out HS.out).mono ?_; rintro e w' ⟨rfl, rfl⟩)
  go_ret
  have hcl : classL p u = [] := by unfold classL; rw [HR.out]; rfl
  rw [hcl]
  exact ⟨_, rfl, World.ownsRow_nil _ _ _ _, Below.refl _ _⟩
 ·
  have HR := hid hr
  clear hr
  cases hp : placeB p.length u
  ·
   have HP := hid hp
   clear hp
   go_enter Tryz.func72, Tryz.ntmps72
   go_wp2_with (first | (go_at_call 96; refine (right_is true HR.out HS.out).mono ?_; rintro e w' ⟨rfl, rfl⟩) | (go_at_call 94; refine (place_is false HP.out _).mono ?_; rintro e w' ⟨rfl, rfl⟩))
   go_ret
   have hcl : classL p u = [] := by unfold classL; rw [HR.out, HP.out]; rfl
   rw [hcl]
   exact ⟨_, rfl, World.ownsRow_nil _ _ _ _, Below.refl _ _⟩
  ·
   have HP := hid hp
   have hp' := (placeB_iff _ _).1 hp
   have u1 : 0 ≤ u := hp'.1
   have u2 : u < p.length := hp'.2
   have hcl : classL p u = clK p u p.length := by unfold classL; rw [HR.out, HP.out]; rfl
   have HCL := hid hcl
   clear hp hp' hcl
   go_enter Tryz.func72, Tryz.ntmps72
   go_wp2_with (first | (go_at_call 96; refine (right_is true HR.out HS.out).mono ?_; rintro e w' ⟨rfl, rfl⟩) | (go_at_call 94; refine (place_is true HP.out _).mono ?_; rintro e w' ⟨rfl, rfl⟩))
   go_loopw [5, 20] (fun l i wr => ∃ k : Nat, k ≤ p.length ∧ i = .int .i64 k ∧ wr.ownsRow w.heap.size 3 1 l (clK p u k).length (ints (clK p u k)) ∧ Below w.heap.size w wr) (fun _ i _ => p.length - (intOf i).toNat)
   case atStart => exact ⟨0, Nat.zero_le _, rfl, World.ownsRow_nil _ _ _ _, Below.refl _ _⟩
   case round =>
    obtain ⟨k, hk, rfl, hown, hbel⟩ := hrel
    have hck := clK_le p u k
    by_cases hlt : k < p.length
    ·
     obtain ⟨b, o, rfl, hb, hc⟩ := HX.out (by omega)
     have c1 := (hbel.cell (p := ⟨b, o + k, none⟩) (by show b < _; omega)).trans (ints_cell hc hlt)
     have c2 := (hbel.cell (p := ⟨b, o + u.toNat, none⟩) (by show b < _; omega)).trans (ints_cell hc (k := u.toNat) (by omega))
     clear hc
     have hgx : g p (k : Int) = p.getD k 0 := by simp [g]
     have hgu : g p u = p.getD u.toNat 0 := rfl
     generalize p.getD k 0 = x at c1 hgx
     generalize p.getD u.toNat 0 = y at c2 hgu
     have HG := hid (And.intro hgx hgu)
     have HC := hid (clK_step p u k)
     have hsz := hbel.size
     clear hgx hgu
     generalize clK p u k = m at *
     by_cases he : x = y
     ·
      have e1 : (x == y) = true := by simp [he]
      have HE := hid he
      clear he
      go_wp2_with (at_builtin; refine wl_app1 rfl _ _ Tints rfl (news := [.int .i64 (k : Int)]) rfl hown rfl rfl (ints_one [(k : Int)]) (by omega) hsz ?_)
      intro v' w' hown' hbel'
      go_wp2
      go_roundw
      case rel =>
       have e2 : clK p u (k + 1) = m ++ [(k : Int)] := by rw [HC.out, if_pos (by rw [HG.out.1, HG.out.2]; exact HE.out)]
       refine ⟨k + 1, by omega, by go_num, ?_, hbel.trans hbel'⟩
       rw [e2, ← ints_app, List.length_append]
       exact hown'
      case measure => simp [intOf]; omega
     ·
      have e1 : (x == y) = false := by simp [he]
      have HE := hid he
      clear he
      go_wp2
      go_roundw
      case rel =>
       have e2 : clK p u (k + 1) = m := by rw [HC.out, if_neg (by rw [HG.out.1, HG.out.2]; exact HE.out)]; simp
       exact ⟨k + 1, by omega, by go_num, by rw [e2]; exact hown, hbel⟩
      case measure => simp [intOf]; omega
    ·
     have hkn : k = p.length := by omega
     subst hkn
     go_wp2
     go_ret
     exact ⟨_, rfl, by rw [HCL.out]; exact hown, hbel⟩
end Go.Proofs.YtahodfikhocobaaGreatDoor

/- Contracts of part.Refines, part.Join, raftsmanref06.Same. -/
namespace Go.Proofs.YtahodfikhocobaaGreatDoor
open Go.RowKit Pt
set_option linter.unusedVariables false

def sameB (p q : List Int) : Bool := p == q
theorem same_any (v v' : Value) (n n' B B' : Nat) (p q : List Int) (w : World) (hs : Sl w B 1 v n (ints p)) (hs' : Sl w B' 1 v' n' (ints q)) :
  Calls Tryz.prog 9 #[v, v'] w fun e w' => e = .returned (.bool (sameB p q)) ∧ Qt w w' := by
 obtain ⟨A, c, rfl, hnc, hcm, hl, hx⟩ := hs
 have hn : p.length = n := by rw [len_ints] at hl; omega
 subst hn
 have hm : p.length ≤ 9223372036854775807 := by unfold maxLen at hcm; omega
 obtain ⟨A', c', rfl, hnc', hcm', hl', hx'⟩ := hs'
 have hn : q.length = n' := by rw [len_ints] at hl'; omega
 subst hn
 have hm' : q.length ≤ 9223372036854775807 := by unfold maxLen at hcm'; omega
 clear hl hcm hl' hcm'
 have HX := hid hx
 have HX' := hid hx'
 clear hx hx'
 by_cases hlen : p.length = q.length
 ·
  have e0 : ((p.length : Int) != (q.length : Int)) = false := by simp [hlen]
  have HL := hid hlen
  have hlen' : p.length ≤ q.length := by omega
  clear hlen
  go_enter Tryz.func9, Tryz.ntmps9
  go_wp2
  go_loopw [5] (fun i wr => ∃ k : Nat, k ≤ p.length ∧ i = .int .i64 k ∧ Hid (∀ j, j < k → p.getD j 0 = q.getD j 0) ∧ Qt w wr) (fun i _ => p.length - (intOf i).toNat)
  case atStart => exact ⟨0, Nat.zero_le _, rfl, fun j hj => by omega, Qt.refl _⟩
  case round =>
   obtain ⟨k, hk, rfl, hall, hq⟩ := hrel
   by_cases hlt : k < p.length
   ·
    obtain ⟨b, o, rfl, hb, hc⟩ := HX.out (by omega)
    obtain ⟨b', o', rfl, hb', hc'⟩ := HX'.out (by omega)
    have c1 := (hq.cell ⟨b, o + k, none⟩).trans (ints_cell hc hlt)
    have c2 := (hq.cell ⟨b', o' + k, none⟩).trans (ints_cell hc' (by omega))
    obtain ⟨x, hgx⟩ : ∃ x, x = p.getD k 0 := ⟨_, rfl⟩
    obtain ⟨y, hgy⟩ : ∃ y, y = q.getD k 0 := ⟨_, rfl⟩
    rw [← hgx] at c1
    rw [← hgy] at c2
    have HG := hid (And.intro hgx hgy)
    have i1 : (k : Int) < p.length := by omega
    have i2 : (k : Int) < q.length := by omega
    clear hc hc' hgx hgy
    by_cases he : x = y
    ·
     have e1 : (x != y) = false := by simp [he]
     have HE := hid he
     clear he
     go_wp2_with fail
     go_quiet (fail)
     go_wp2
     go_roundw
     case rel =>
      refine ⟨k + 1, by omega, by go_num, hid fun j hj => ?_, hq.drewN _⟩
      by_cases hjk : j = k
      · subst hjk; rw [← HG.out.1, ← HG.out.2, HE.out]
      · exact hall.out j (by omega)
     case measure => simp [intOf]; omega
    ·
     have e1 : (x != y) = true := by simp [he]
     have HE := hid he
     clear he
     go_wp2_with fail
     go_quiet (fail)
     go_wp2
     go_ret
     refine ⟨ret_bool ?_, hq.drewN _⟩
     unfold sameB
     symm
     rw [beq_eq_false_iff_ne]
     intro h
     have := HG.out
     rw [h] at this
     exact HE.out (this.1.trans this.2.symm)
   ·
    have hkn : k = p.length := by omega
    subst hkn
    go_wp2
    go_ret
    refine ⟨ret_bool ?_, hq⟩
    unfold sameB
    symm
    rw [beq_iff_eq]
    refine List.ext_getElem HL.out fun i h1 h2 => ?_
    have := hall.out i h1
    simpa [List.getD, h1, h2] using this
 ·
  have e0 : ((p.length : Int) != (q.length : Int)) = true := by simp; omega
  have HL := hid hlen
  clear hlen
  go_enter Tryz.func9, Tryz.ntmps9
  go_wp2
  go_ret
  refine ⟨ret_bool ?_, Qt.refl _⟩
  unfold sameB
  symm
  rw [beq_eq_false_iff_ne]
  intro h
  exact HL.out (by rw [h])
end Go.Proofs.YtahodfikhocobaaGreatDoor

/- Contracts of part.Refines, part.Join. -/
namespace Go.Proofs.YtahodfikhocobaaGreatDoor
open Go.RowKit Pt
set_option linter.unusedVariables false

end Go.Proofs.YtahodfikhocobaaGreatDoor

/- Contract of raftsmanref09.May. -/
namespace Go.Proofs.YtahodfikhocobaaGreatDoor
open Go.RowKit Pt
set_option linter.unusedVariables false

end Go.Proofs.YtahodfikhocobaaGreatDoor

/- Contract of part.Of. -/
namespace Go.Proofs.YtahodfikhocobaaGreatDoor
open Go.RowKit Pt
set_option linter.unusedVariables false

def OfPost (n : Nat) (l : List Ed) (w : World) (e : Ending) (w' : World) : Prop :=
 Below w.heap.size w w' ∧ ((mayB n l = true ∧ ∃ v', e = .returned (.tuple #[v', .int .i64 0]) ∧ w'.ownsRow w.heap.size 3 1 v' n (ints (partOf n (uv l)))) ∨ (mayB n l = false ∧ e = .returned (.tuple #[.slice none 0 0, .int .i64 1])))
def OfRel (n : Nat) (l : List Ed) (k0 : Nat) (w : World) (i : Value) (wr : World) : Prop :=
 ∃ k : Nat, k ≤ l.length ∧ i = .int .i64 k ∧ (∀ j (h : j < l.length), j < k → edB n l[j] = true) ∧ Below w.heap.size w wr ∧ ∃ zs, Blk wr k0 3 (ints zs) ∧ Uf zs (partOf n ((uv l).take k))
theorem mayB_bad {n : Int} {l : List Ed} {k : Nat} (h : k < l.length) (hb : edB n l[k] = false) : mayB n l = false := by
 unfold mayB; rw [List.all_eq_false]; exact ⟨l[k], List.getElem_mem _, by simp [hb]⟩
theorem mayB_good {n : Int} {l : List Ed} (h : ∀ j (h : j < l.length), j < l.length → edB n l[j] = true) : mayB n l = true := by
 unfold mayB; rw [List.all_eq_true]; intro e he
 obtain ⟨j, hj, rfl⟩ := List.getElem_of_mem he
 exact h j hj hj
def RootInv (k n : Nat) (P : List Int) (W0 w : World) : Prop := ∃ zs, Blk w k 3 (ints zs) ∧ Uf zs P ∧ zs.length = n ∧ Only k W0 w
theorem root_inv {k n : Nat} {P : List Int} {v : Int} {W0 w : World} (hm : n ≤ maxLen) (hv : InR P.length v) (hI : RootInv k n P W0 w) :
  Calls Tryz.prog 95 #[.slice (some ⟨k, 0, none⟩) n n, .int .i64 v] w fun e w' => e = .returned (.int .i64 (g P v)) ∧ RootInv k n P W0 w' ∧ Only k w w' := by
 obtain ⟨zs, hb, hu, hn, h0⟩ := hI
 exact (root_any k n zs P v w hn hm hb hu hv).mono fun e w' ⟨he, zs', hb', hu', ho⟩ => ⟨he, ⟨zs', hb', hu', by rw [hu'.1, ← hu.1, hn], h0.trans ho⟩, ho⟩
theorem Only.keepc {k : Nat} {w w' : World} (h : Only k w w') {b o : Nat} {v : Value} (hne : b ≠ k) (hc : w.cell? ⟨b, o, none⟩ = some v) : w'.cell? ⟨b, o, none⟩ = some v :=
 World.grownBy.cell h hc (fun e => hne (by injection e))
theorem Only.drew {k : Nat} {w w' : World} (h : Only k w w') : Only k w w'.drew := ⟨h.os, h.tape, h.output, h.size, h.block⟩
theorem Only.alloc (k : Nat) (w : World) (o : Obj) : Only k w (w.alloc o) := World.grownBy_alloc w o _
set_option maxHeartbeats 1000000 in
theorem of_any (n : Nat) (hn : n ≤ 1024) (v : Value) (m B : Nat) (l : List Ed) (w : World) (hs : Sl w B 3 v m (eds l)) (hB : B ≤ w.heap.size) :
  Calls Tryz.prog 70 #[.int .i64 n, v] w (OfPost n l w) := by
 obtain ⟨A, c, rfl, hnc, hcm, hl, hx⟩ := hs
 have hm : l.length = m := by rw [len_eds] at hl; omega
 subst hm
 have hm : l.length ≤ 9223372036854775807 := by unfold maxLen at hcm; omega
 clear hl hcm
 have HX := hid hx
 clear hx
 have n0 : (0 : Int) ≤ n := by omega
 have n1 : (n : Int) ≤ 1024 := by omega
 go_enter Tryz.func70, Tryz.ntmps70
 go_wp2_with fail
 refine (single_any n (by omega) _).mono ?_; rintro e w1 ⟨rfl, hb, hbel, hlt1⟩
 go_wp2_with fail
 go_loopw [22] (OfRel n l w.heap.size w) (fun i _ => l.length - (intOf i).toNat)
 case atStart => exact ⟨0, Nat.zero_le _, rfl, fun j _ hj => by omega, hbel, idl n, hb, Uf_id n⟩
 case round =>
  obtain ⟨k, hk, rfl, hall, hbel', zs, hb', hu⟩ := hrel
  clear hb hbel hlt1
  have HA := hid hall
  have HU := hid hu
  clear hall hu
  by_cases hlt : k < l.length
  ·
   obtain ⟨b, o, rfl, hbB, hc⟩ := HX.out (by omega)
   obtain ⟨d1, d2, d3⟩ := eds_cell hc hlt
   have c1 := (hbel'.cell (p := ⟨b, o + k * 3, none⟩) (by show b < _; omega)).trans d1
   have c2 := (hbel'.cell (p := ⟨b, o + k * 3 + 1, none⟩) (by show b < _; omega)).trans d2
   have c3 := (hbel'.cell (p := ⟨b, o + k * 3 + 2, none⟩) (by show b < _; omega)).trans d3
   have HE : Hid (edB n l[k] = (placeB n l[k].1 && placeB n l[k].2.1)) := hid rfl
   have HV : Hid ((uv l).take (k + 1) = (uv l).take k ++ [(l[k].1, l[k].2.1)]) := hid (by rw [take_one _ (by simp [uv]; exact hlt)]; simp [uv])
   clear d1 d2 d3 hc
   generalize l[k].1 = x at *
   generalize l[k].2.1 = y at *
   generalize l[k].2.2 = z at *
   cases hp : placeB n x
   ·
    have HP := hid hp
    clear hp
    go_wp2_with fail
    refine (place_is false HP.out _).mono ?_; rintro e w' ⟨rfl, rfl⟩
    go_wp2
    go_ret2
    exact ⟨hbel'.alloc hbel'.size _, .inr ⟨mayB_bad hlt (by rw [HE.out, HP.out]; rfl), rfl⟩⟩
   ·
    have HP := hid hp
    clear hp
    cases hp2 : placeB n y
    ·
     have HP2 := hid hp2
     clear hp2
     go_wp2_with fail
     refine (place_is true HP.out _).mono ?_; rintro e w' ⟨rfl, rfl⟩
     go_wp2_with fail
     refine (place_is false HP2.out _).mono ?_; rintro e w' ⟨rfl, rfl⟩
     go_wp2
     go_ret2
     exact ⟨hbel'.alloc hbel'.size _, .inr ⟨mayB_bad hlt (by rw [HE.out, HP.out, HP2.out]; rfl), rfl⟩⟩
    ·
     have HP2 := hid hp2
     clear hp2
     go_wp2_with fail
     refine (place_is true HP.out _).mono ?_; rintro e w' ⟨rfl, rfl⟩
     go_wp2_with fail
     refine (place_is true HP2.out _).mono ?_; rintro e w' ⟨rfl, rfl⟩
     go_wp2_with fail
     have hx1 := hid ((placeB_iff _ _).1 HP.out)
     have hy1 := hid ((placeB_iff _ _).1 HP2.out)
     have hlP : (partOf n ((uv l).take k)).length = n := len_partOf _ _
     have HlP := hid hlP
     have I1 : RootInv w.heap.size n (partOf n ((uv l).take k)) wr (wr.alloc (Obj.cells #[Value.int IntKind.i64 x, Value.int IntKind.i64 y, Value.int IntKind.i64 z] 35)).drew :=
      ⟨zs, hb'.alloc _, HU.out, by rw [HU.out.1, hlP], (Only.alloc _ _ _).drew⟩
     have hne : wr.heap.size ≠ w.heap.size := by have := hb'.lt; omega
     have HB := hid hb'
     clear hlP hb'
     go_region_held3 (fun w' => w'.cell? ⟨wr.heap.size, 0, none⟩ = some (.int .i64 x) ∧ w'.cell? ⟨wr.heap.size, 1, none⟩ = some (.int .i64 y))
      (first | go_keep | (go_split_ands; refine ⟨?_, ?_⟩ <;> (refine ho.keepc hne ?_; assumption)))
      (first | (go_at_call 95; refine (root_inv (P := partOf n ((uv l).take k)) (W0 := wr) (by unfold maxLen; omega) (by rw [HlP.out]; first | exact hx1.out | exact hy1.out) (by first | exact I1 | assumption)).mono ?_; rintro e w' ⟨rfl, I2, ho⟩))
     obtain ⟨zs2, hb2, hu2, hn2, hO⟩ := I2
     have hbel2 : Below w.heap.size w w' := hbel'.trans (hO.below (Nat.le_refl _) hbel'.size)
     clear ho hO I1 hne c1 c2 c3
     have hMay : MayL n ((uv l).take (k + 1)) := by
      intro e he
      rw [HV.out] at he
      rcases List.mem_append.1 he with he | he
      ·
       rw [← uv_take] at he
       obtain ⟨d, hd, rfl⟩ := List.mem_map.1 he
       obtain ⟨j, hj, rfl⟩ := List.getElem_of_mem hd
       have hj' : j < k ∧ j < l.length := by simp at hj; omega
       have := HA.out j hj'.2 hj'.1
       unfold edB at this
       simp only [Bool.and_eq_true, placeB_iff] at this
       simpa using this
      · simp at he; subst he; exact ⟨hx1.out, hy1.out⟩
     have hMay0 : MayL n ((uv l).take k) := by
      have := hMay.take k
      rwa [List.take_take, Nat.min_eq_left (by omega)] at this
     have hRt := Rt_partOf hMay0
     have HN : Hid (Uf (zs2.set (max (g (partOf n ((uv l).take k)) x) (g (partOf n ((uv l).take k)) y)).toNat (min (g (partOf n ((uv l).take k)) x) (g (partOf n ((uv l).take k)) y))) (partOf n ((uv l).take (k + 1)))) := hid (by
      rw [HV.out, partOf_snoc]
      exact hu2.union hRt (by rw [HlP.out]; exact hx1.out) (by rw [HlP.out]; exact hy1.out))
     have ra := hRt.inr (v := x) (by rw [HlP.out]; exact hx1.out)
     have rb := hRt.inr (v := y) (by rw [HlP.out]; exact hy1.out)
     rw [HlP.out] at ra rb
     obtain ⟨a0, a1⟩ := ra
     obtain ⟨b0, b1⟩ := rb
     have HAll : Hid (∀ j (h : j < l.length), j < k + 1 → edB n l[j] = true) := hid (fun j hj hjk => by
      by_cases h : j = k
      · subst h; rw [HE.out, HP.out, HP2.out]; rfl
      · exact HA.out j hj (by omega))
     clear hMay hMay0 hRt hu2 HV HE HA HP HP2 hx1 hy1 HU
     generalize hPa : g (partOf n ((uv l).take k)) x = p1 at *
     generalize hPb : g (partOf n ((uv l).take k)) y = p2 at *
     clear hPa hPb HlP
     have cM : ∀ t : Int, 0 ≤ t → t < n → w'.cell? ⟨w.heap.size, t.toNat, none⟩ = some (.int .i64 (zs2.getD t.toNat 0)) := fun t h0 h1 => by
      rw [hb2.cell, ints_at _ _ (by omega)]
     have ca := cM p1 a0 a1
     have cb := cM p2 b0 b1
     have fa := hb2.frozen p1.toNat
     have fb := hb2.frozen p2.toNat
     have HB2 := hid hb2
     clear cM hb2 hn2
     generalize zs2.getD p1.toNat 0 = v1 at ca
     generalize zs2.getD p2.toNat 0 = v2 at cb
     rcases Int.lt_trichotomy p1 p2 with hc | hc | hc
     ·
      have e1 : ¬ p2 < p1 := by omega
      go_wp2
      go_roundw
      case rel =>
       refine ⟨k + 1, by omega, by go_num, HAll.out, hbel2.setCell (Nat.le_refl _) _, _, ?_, HN.out⟩
       rw [Int.max_eq_right (by omega), Int.min_eq_left (by omega), ← ints_set]
       exact HB2.out.put _ _
      case measure => simp [intOf]; omega
     ·
      subst hc
      go_wp2
      go_roundw
      case rel =>
       refine ⟨k + 1, by omega, by go_num, HAll.out, hbel2.setCell (Nat.le_refl _) _, _, ?_, HN.out⟩
       rw [Int.max_eq_right (by omega), Int.min_eq_left (by omega), ← ints_set]
       exact HB2.out.put _ _
      case measure => simp [intOf]; omega
     ·
      have e1 : ¬ p1 < p2 := by omega
      go_wp2
      go_roundw
      case rel =>
       refine ⟨k + 1, by omega, by go_num, HAll.out, hbel2.setCell (Nat.le_refl _) _, _, ?_, HN.out⟩
       rw [Int.max_eq_left (by omega), Int.min_eq_right (by omega), ← ints_set]
       exact HB2.out.put _ _
      case measure => simp [intOf]; omega
  ·
   have hkn : k = l.length := by omega
   subst hkn
   have hP : (uv l).take l.length = uv l := by rw [List.take_of_length_le]; simp [uv]
   have hu := HU.out
   rw [hP] at hu
   have hlP : (partOf n (uv l)).length = n := len_partOf _ _
   have HlP := hid hlP
   have HMay := hid (mayB_good HA.out)
   have hF := hid hu.flat
   clear hP hu hlP HU HA
   generalize hPP : partOf n (uv l) = P at *
   have HPP := hid hPP
   clear hPP
   go_wp2
   go_loopw [57] (fun i wr2 => ∃ j : Nat, j ≤ n ∧ i = .int .i64 j ∧ Below w.heap.size w wr2 ∧ ∃ ys, Blk wr2 w.heap.size 3 (ints ys) ∧ Hid (Flat ys P j)) (fun i _ => n - (intOf i).toNat)
   case atStart => exact ⟨0, Nat.zero_le _, rfl, hbel', zs, hb', hF⟩
   case round =>
    obtain ⟨j, hj, rfl, hbel2, ys, hb2, hFl⟩ := hrel
    clear hb' hF hbel'
    by_cases hjn : j < n
    ·
     have hly : ys.length = n := by rw [hFl.out.1.1]; exact HlP.out
     have hj1 := hFl.out.1.2 (j : Int) ⟨by omega, by rw [HlP.out]; omega⟩
     have c1 : wr.cell? ⟨w.heap.size, j, none⟩ = some (.int .i64 (g ys (j : Int))) := by
      rw [hb2.cell, ints_at _ _ (by omega)]; simp [g]
     have c2 : wr.cell? ⟨w.heap.size, (g ys (j : Int)).toNat, none⟩ = some (.int .i64 (g ys (g ys (j : Int)))) := by
      rw [hb2.cell, ints_at _ _ (by omega)]; rfl
     have f1 := hb2.frozen j
     have x0 := hj1.1
     have x1 := hj1.2.1
     have HS := hid (hFl.out.step (by rw [HlP.out]; exact hjn))
     have HB := hid hb2
     clear hj1 hly hb2
     generalize g ys (g ys (j : Int)) = y at *
     generalize g ys (j : Int) = x at *
     go_wp2
     go_roundw
     case rel =>
      refine ⟨j + 1, by omega, by go_num, hbel2.setCell (Nat.le_refl _) _, _, ?_, HS⟩
      rw [← ints_set]
      exact HB.out.put _ _
     case measure => simp [intOf]; omega
    ·
     have hjn : j = n := by omega
     subst hjn
     have hFd := hFl.out
     rw [← HlP.out] at hFd
     have hyP := hFd.done
     have HY := hid hyP
     clear hFd hyP
     go_wp2
     go_ret2
     refine ⟨hbel2, .inl ⟨HMay.out, _, rfl, ?_⟩⟩
     rw [HPP.out, ← HY.out]
     exact own_of_blk hb2 (Nat.le_refl _) (by unfold maxLen; omega) (by rw [len_ints, HY.out, HlP.out]; omega)
end Go.Proofs.YtahodfikhocobaaGreatDoor

/- Contract of raftsmanref09.Of. -/
namespace Go.Proofs.YtahodfikhocobaaGreatDoor
open Go.RowKit Pt
set_option linter.unusedVariables false

end Go.Proofs.YtahodfikhocobaaGreatDoor

/- Contract of awake: the fixed answer is true. -/
namespace Go.Proofs.YtahodfikhocobaaGreatDoor
open Go.RowKit Pt
set_option linter.unusedVariables false

theorem same_is {v v' : Value} {n n' B B' : Nat} {p q : List Int} {w : World} (b : Bool) (h : sameB p q = b) (hs : Sl w B 1 v n (ints p)) (hs' : Sl w B' 1 v' n' (ints q)) :
  Calls Tryz.prog 9 #[v, v'] w fun e w' => e = .returned (.bool b) ∧ Qt w w' := by
 rw [← h]; exact same_any v v' n n' B B' p q w hs hs'
theorem many_is {v : Value} {n B : Nat} {p : List Int} {w : World} (k : Int) (h : (manyZ p : Int) = k) (hs : Sl w B 1 v n (ints p)) :
  Calls Tryz.prog 71 #[v] w fun e w' => e = .returned (.int .i64 k) ∧ w = w' := by
 rw [← h]; exact many_any v n B p w hs
theorem of_ok {n : Nat} (hn : n ≤ 1024) {v : Value} {m B : Nat} {l : List Ed} {w : World} (hs : Sl w B 3 v m (eds l)) (hB : B ≤ w.heap.size) (hm : mayB n l = true) :
  Calls Tryz.prog 70 #[.int .i64 n, v] w fun e w' => ∃ v', e = .returned (.tuple #[v', .int .i64 0]) ∧ Sl w' w'.heap.size 1 v' n (ints (partOf n (uv l))) ∧ Below w.heap.size w w' :=
 (of_any n hn v m B l w hs hB).mono fun e w' ⟨hb, h⟩ => by
  rcases h with ⟨_, v', he, ho⟩ | ⟨h, _⟩
  · exact ⟨v', he, Sl.of_own ho, hb⟩
  · rw [hm] at h; cases h
theorem of_no {n : Nat} (hn : n ≤ 1024) {v : Value} {m B : Nat} {l : List Ed} {w : World} (hs : Sl w B 3 v m (eds l)) (hB : B ≤ w.heap.size) (hm : mayB n l = false) :
  Calls Tryz.prog 70 #[.int .i64 n, v] w fun e w' => e = .returned (.tuple #[.slice none 0 0, .int .i64 1]) ∧ Below w.heap.size w w' :=
 (of_any n hn v m B l w hs hB).mono fun e w' ⟨hb, h⟩ => by
  rcases h with ⟨h, _⟩ | ⟨_, he⟩
  · rw [hm] at h; cases h
  · exact ⟨he, hb⟩
end Go.Proofs.YtahodfikhocobaaGreatDoor
namespace Go.Proofs.YtahodfikhocobaaGreatDoor
open Go.RowKit Pt
set_option linter.unusedVariables false
def GGrw (w w' : World) (v v' : Value) : Prop := w.grownBy w' v.ownBlock ∧ (v'.ownBlock = v.ownBlock ∨ ∀ g, v'.ownBlock = some g → w.heap.size ≤ g)
theorem GGrw.below {w w' : World} {base : Nat} {e : TypeId} {sz n : Nat} {v v' : Value} {xs : List Value} (h : GGrw w w' v v') (hown : w.ownsRow base e sz v n xs) (hb : base ≤ w.heap.size) : Below base w w' := grown_below hown h.1 hb
theorem GGrw.blk {w w' : World} {k : Nat} {t : TypeId} {v v' : Value} {cs : List Value} (h : GGrw w w' v v') (hk : Blk w k t cs) (hne : some k ≠ v.ownBlock) : Blk w' k t cs := (h.1.block k hk.lt hne).trans hk
theorem gstep_app {ops : Array Oper} {o : Oper} {a : Act} {K : Act → World → Prop} {Q : Exit → Act → World → Prop} {w : World} {E : Prop} (hgd : o.guard = none) (s x : Operand) {t e : TypeId} {z : Value} {sz by_ : Nat} (hT : SlT t e z sz by_) (hop : o.op = .call { callee := .builtin .append, args := #[s, x], argTypes := #[t, t] })
  {base : Nat} {v : Value} {n : Nat} {xs : List Value} (hs : a.eval s = v) (hown : w.ownsRow base e sz v n xs) {b : Nat} {e' : TypeId} {news : List Value} (hx : a.eval x = .slice (some ⟨b, 0, none⟩) 1 1) (hblk : Blk w b e' news)
  (hl : news.length = sz) (h1 : ∀ u ∈ news, u.oneCell' = true) (hb : (n + 1) * by_ ≤ 140737488355328) (hbase : base ≤ w.heap.size)
  (h : ∀ v' w', w'.ownsRow base e sz v' (n + 1) (xs ++ news) → GGrw w w' v v' → (∃ g cap, v' = .slice (some ⟨g, 0, none⟩) (n + 1) cap) → K (a.put o.dst v') w') : if Region.wanted o (yielded ops a.tmps) = true then Oper.wp Tryz.prog o a w K Q else E := by
 have hw : Region.wanted o (yielded ops a.tmps) = true := by simp [Region.wanted, hgd]
 rw [if_pos hw]
 obtain ⟨hu, ⟨i, hi, hz, hsz, hby⟩, hzs, h0, h0b⟩ := hT
 have h63 : n + 1 ≤ maxLen := by
  have : n + 1 ≤ (n + 1) * by_ := Nat.le_mul_of_pos_right _ h0b
  unfold maxLen; omega
 refine wp_append_lies w s x t hop base e i z sz by_ hu hi hz hsz hby hzs h0 v n xs hs hown ⟨b, 0, none⟩ 1 1 news hx (by omega) (fun j u hu => ?_) h1 (by omega) h63 hb hbase _ rfl ?_
 · rw [Addr.add_lit, Nat.zero_add, hblk.cell]; exact hu
 ·
  intro g cap w' h2 h3 h4 h5
  refine h _ w' h2 ⟨h3, ?_⟩ ⟨g, cap, rfl⟩
  rcases h4 with h4 | h4
  · exact .inl (by rw [h4]; rfl)
  ·
   refine .inr fun g' hg => ?_
   have : g = g' := by simpa [Value.ownBlock] using hg
   omega
theorem own_keep {w w' : World} {base : Nat} {e : TypeId} {sz n : Nat} {v : Value} {xs : List Value} (h : w.ownsRow base e sz v n xs) (hk : ∀ b, v.ownBlock = some b → w'.heap[b]? = w.heap[b]?) : w'.ownsRow base e sz v n xs := by
 refine ⟨h.1, ?_⟩
 rcases h.2 with hn | ⟨k, cap, cur, rfl, hbk, hh, rest⟩
 · exact .inl hn
 · exact .inr ⟨k, cap, cur, rfl, hbk, (hk k rfl).trans hh, rest⟩
/-! ## A row of rows -/
def svs (n : Nat) (sv : Nat → Value) : List Value := (List.range n).map sv
theorem svs_at (n : Nat) (sv : Nat → Value) {x : Nat} (h : x < n) : (svs n sv)[x]? = some (sv x) := by simp [svs, h]
def up {α : Type} (f : Nat → α) (x : Nat) (a : α) : Nat → α := fun y => if y = x then a else f y
theorem svs_set (n : Nat) (sv : Nat → Value) (x : Nat) (v : Value) : (svs n sv).set x v = svs n (up sv x v) := by
 apply List.ext_getElem
 · simp [svs]
 ·
  intro i h1 h2
  simp only [List.getElem_set, svs, List.getElem_map, List.getElem_range, up]
  by_cases h : x = i
  · subst h; simp
  · simp [h, Ne.symm h]
def Stars (w : World) (base K n : Nat) (sv : Nat → Value) (ls : Nat → List Nat) : Prop :=
 Blk w K 32 (svs n sv) ∧ base ≤ K ∧ (∀ x, x < n → w.ownsRow base 3 1 (sv x) (ls x).length (ints ((ls x).map Int.ofNat)) ∧ (sv x).ownBlock ≠ some K) ∧
  (∀ x y, x < n → y < n → x ≠ y → ∀ b, (sv x).ownBlock = some b → (sv y).ownBlock ≠ some b)
theorem Stars.call {w w' : World} {base K n : Nat} {sv : Nat → Value} {ls : Nat → List Nat} (h : Stars w base K n sv ls) (hb : Below w.heap.size w w') : Stars w' base K n sv ls :=
 ⟨h.1.below hb h.1.lt, h.2.1, fun x hx => ⟨own_below (h.2.2.1 x hx).1 hb, (h.2.2.1 x hx).2⟩, h.2.2.2⟩
theorem Stars.congr {w : World} {base K n : Nat} {sv : Nat → Value} {ls ls' : Nat → List Nat} (h : Stars w base K n sv ls) (he : ∀ x, x < n → ls x = ls' x) : Stars w base K n sv ls' :=
 ⟨h.1, h.2.1, fun x hx => by rw [← he x hx]; exact h.2.2.1 x hx, h.2.2.2⟩
theorem Stars.step {w w' : World} {base K n : Nat} {sv : Nat → Value} {ls : Nat → List Nat} (h : Stars w base K n sv ls) {x : Nat} (hx : x < n) {v' : Value} {i : Nat} (hg : GGrw w w' (sv x) v')
  (hown : w'.ownsRow base 3 1 v' ((ls x).length + 1) (ints ((ls x).map Int.ofNat) ++ [.int .i64 (i : Int)])) :
  Stars (w'.setCell ⟨K, x, none⟩ v') base K n (up sv x v') (up ls x (ls x ++ [i])) := by
 obtain ⟨h1, h2, h3, h4⟩ := h
 have hKx := (h3 x hx).2
 have hv'K : v'.ownBlock ≠ some K := by
  rcases hg.2 with e | e
  · rw [e]; exact hKx
  · intro e2; have := e K e2; have := h1.lt; omega
 have hset : ∀ b, b ≠ K → (w'.setCell ⟨K, x, none⟩ v').heap[b]? = w'.heap[b]? := fun b hb => Below.heap_setCell w' ⟨K, x, none⟩ v' b hb
 refine ⟨?_, h2, fun y hy => ?_, fun y z hy hz hyz b hb => ?_⟩
 ·
  have := (hg.blk h1 (Ne.symm hKx)).put x v'
  rwa [svs_set] at this
 ·
  by_cases hyx : y = x
  ·
   subst hyx
   simp only [up, if_true]
   refine ⟨own_keep ?_ (fun b hb => hset b fun e => hv'K (by rw [hb, e])), hv'K⟩
   rw [List.length_append, List.map_append]
   unfold ints at hown ⊢
   rw [List.map_append]
   exact hown
  ·
   simp only [up, hyx, if_false]
   refine ⟨own_keep (h3 y hy).1 (fun b hb => ?_), (h3 y hy).2⟩
   rw [hset b fun e => (h3 y hy).2 (by rw [hb, e])]
   exact hg.1.block b ((h3 y hy).1.lt b hb).2 fun e => h4 y x hy hx hyx b hb e.symm
 ·
  by_cases hyx : y = x
  ·
   subst hyx
   have hzy : ¬ z = y := fun e => hyz e.symm
   simp only [up, if_true] at hb
   simp only [up, hzy, if_false]
   rcases hg.2 with e | e
   · rw [e] at hb; exact h4 y z hy hz hyz b hb
   ·
    intro e2
    have := e b hb
    have := ((h3 z hz).1.lt b e2).2
    omega
  ·
   simp only [up, hyx, if_false] at hb
   by_cases hzx : z = x
   ·
    subst hzx
    simp only [up, if_true]
    rcases hg.2 with e | e
    · rw [e]; exact h4 y z hy hz hyz b hb
    ·
     intro e2
     have := e b e2
     have := ((h3 y hy).1.lt b hb).2
     omega
   ·
    simp only [up, hzx, if_false]
    exact h4 y z hy hz hyz b hb
theorem Stars.start {w : World} {base K n : Nat} (h : Blk w K 32 (svs n fun _ => .slice none 0 0)) (hb : base ≤ K) : Stars w base K n (fun _ => .slice none 0 0) (fun _ => []) :=
 ⟨h, hb, fun x _ => ⟨World.ownsRow_nil _ _ _ _, fun e => by cases e⟩, fun x y _ _ _ b e => by cases e⟩
theorem Trows : SlT 186 32 (.slice none 0 0) 1 24 := SlT.mk Tryz.underlying186 (by kernel_rfl) rfl (by decide) (by decide)
theorem run_make_rows (n : Nat) (h : n ≤ 1000000) (w : World) :
  (Instr.makeSlice 186 (.int .i64 (n : Int)) (.int .i64 (n : Int))).run Tryz.prog w = .ok (.slice (some ⟨w.heap.size, 0, none⟩) n n) (w.alloc (.cells (svs n fun _ => .slice none 0 0).toArray 32)) := by
 obtain ⟨hu, ⟨i, hi, hz, hsz, hby⟩, hzs, h0, h0b⟩ := Trows
 have hr := run_make (P := Tryz.prog) w 186 32 i (.slice none 0 0) hu hi hz .i64 .i64 n n (by omega) (by omega) (by rw [hby]; omega) (by omega)
 rw [hr, hsz]
 have e : madeCells (Value.slice none 0 0).cells ((n : Int).toNat * 1) = (svs n fun _ => .slice none 0 0).toArray := by
  have := toList_madeCells_one (.slice none 0 0) n
  simp only [Int.toNat_natCast, Nat.mul_one]
  have h2 : svs n (fun _ => Value.slice none 0 0) = List.replicate n (Value.slice none 0 0) := by
   apply List.ext_getElem
   · simp [svs]
   · intro i h1 h2; simp [svs]
  rw [h2, ← this]
  rfl
 rw [e]
 simp
/-! ## A queue -/
def Qu (w : World) (b : Nat) (v : Value) (xs : List Int) : Prop :=
 ∃ o c, v = .slice (some ⟨b, o, none⟩) xs.length c ∧ xs.length ≤ c ∧ c ≤ maxLen ∧ (∃ cur, w.heap[b]? = some (.cells cur 3 (0, 0)) ∧ o + c ≤ cur.size) ∧ (∀ j u, (ints xs)[j]? = some u → w.cell? ⟨b, o + j, none⟩ = some u)
theorem Qu.keep {w w' : World} {b : Nat} {v : Value} {xs : List Int} (h : Qu w b v xs) (hk : w'.heap[b]? = w.heap[b]?) : Qu w' b v xs := by
 obtain ⟨o, c, h1, h2, h3, ⟨cur, h4, h5⟩, h6⟩ := h
 exact ⟨o, c, h1, h2, h3, ⟨cur, hk.trans h4, h5⟩, fun j u hu => (World.cell?_of_block (a := ⟨b, o + j, none⟩) hk).trans (h6 j u hu)⟩
theorem Qu.lt {w : World} {b : Nat} {v : Value} {xs : List Int} (h : Qu w b v xs) : b < w.heap.size := by
 obtain ⟨o, c, h1, h2, h3, ⟨cur, h4, h5⟩, h6⟩ := h
 exact (Array.getElem?_eq_some_iff.1 h4).1
theorem Qu.call {w w' : World} {b : Nat} {v : Value} {xs : List Int} (h : Qu w b v xs) (hb : Below w.heap.size w w') : Qu w' b v xs := h.keep (hb.block b h.lt)
theorem Qu.far {w : World} {b : Nat} {v : Value} {xs : List Int} (h : Qu w b v xs) {p : Addr} (hp : b ≠ p.block) (u : Value) : Qu (w.setCell p u) b v xs := h.keep (Below.heap_setCell w p u b hp)
theorem Qu.pop {w : World} {b o c n : Nat} {x : Int} {xs : List Int} (h : Qu w b (.slice (some ⟨b, o, none⟩) n c) (x :: xs)) (o' : Nat) (hc : (c = 1 ∧ o' = o) ∨ (2 ≤ c ∧ o' = o + 1)) : Qu w b (.slice (some ⟨b, o', none⟩) xs.length (c - 1)) xs := by
 obtain ⟨o1, c1, h1, h2, h3, ⟨cur, h4, h5⟩, h6⟩ := h
 injection h1 with e1 e2 e3
 injection e1 with e1
 injection e1 with _ e1 _
 subst e1 e3
 simp at h2
 refine ⟨o', c - 1, rfl, by omega, by omega, ⟨cur, h4, by omega⟩, fun j u hu => ?_⟩
 have hj : j < xs.length := by have := (List.getElem?_eq_some_iff.1 hu).1; rw [len_ints] at this; exact this
 rcases hc with ⟨hc, rfl⟩ | ⟨hc, rfl⟩
 · omega
 ·
  have := h6 (j + 1) u (by simpa [ints] using hu)
  rwa [show o + 1 + j = o + (j + 1) by omega]
theorem Qu.new (w : World) (x : Int) : Qu (w.alloc (.cells #[.int .i64 x] 3)) w.heap.size (.slice (some ⟨w.heap.size, 0, none⟩) 1 1) [x] := by
 have hb := Blk.new w 3 [.int .i64 x]
 refine ⟨0, 1, rfl, Nat.le_refl _, by unfold maxLen; omega, ⟨_, hb, by simp⟩, fun j u hu => ?_⟩
 rw [Nat.zero_add]
 exact (hb.cell j).trans hu
section
variable {ops : Array Oper} {rest : List Oper} {o : Oper} {a : Act} {Q : Exit → Act → World → Prop} {w : World}
theorem wl_qapp (hw : Region.wanted o (yielded ops a.tmps) = true) (s x : Operand) (hop : o.op = .call { callee := .builtin .append, args := #[s, x], argTypes := #[32, 32] })
  {b : Nat} {v : Value} {xs : List Int} {y : Int} (hs : a.eval s = v) (hq : Qu w b v xs) {H : Nat} (hx0 : a.eval x = .slice (some ⟨H, 0, none⟩) 1 1) (hn : xs.length ≤ 100000) (hH : w.heap.size = H)
  (h : ∀ b' v' w', Qu w' b' v' (xs ++ [y]) → (b' = b ∨ w.heap.size ≤ b') → w.grownBy w' (some b) → wpList Tryz.prog ops Q rest (a.put o.dst v') w') : wpList Tryz.prog ops Q (o :: rest) a (w.alloc (.cells #[.int .i64 y] 3)) := by
 obtain ⟨hu, ⟨i, hi, hz, hsz, hby⟩, hzs, h0, h0b⟩ := Tints
 have hx : a.eval x = .slice (some ⟨w.heap.size, 0, none⟩) 1 1 := by rw [hH]; exact hx0
 have hlt := hq.lt
 have hqa : Qu (w.alloc (.cells #[.int .i64 y] 3)) b v xs := hq.call (bel_new _ _)
 have hcell : ∀ j u, [Value.int .i64 y][j]? = some u → (w.alloc (.cells #[.int .i64 y] 3)).cell? ((⟨w.heap.size, 0, none⟩ : Addr).add j) = some u := fun j u hu => by
  rw [Addr.add_lit, Nat.zero_add]; exact ((Blk.new w 3 [.int .i64 y]).cell j).trans hu
 have h1 : ∀ u ∈ [Value.int .i64 y], u.oneCell' = true := fun u hu => by simp at hu; subst hu; rfl
 obtain ⟨of, c, rfl, hlc, hcm, ⟨cur, hh, hsize⟩, hxs⟩ := hqa
 refine BigFrame.wpList_want hw fun K hK => ?_
 by_cases hr : xs.length + 1 ≤ c
 ·
  have hrun := run_append_room_cells (P := Tryz.prog) (w.alloc (.cells #[.int .i64 y] 3)) 32 o.type 3 i hu hi b of xs.length c ⟨w.heap.size, 0, none⟩ 1 1 [.int .i64 y] (by rw [hsz]; rfl) hcell h1 hr
   (fun j hj => by
    have : j = 0 := by simpa using hj
    subst this
    rw [cell_of_row _ b _ cur _ (0, 0) hh, Array.getElem?_eq_getElem (by rw [hsz]; omega)]; rfl)
   (fun j hj => by simp [World.frozen?, hh])
  unfold Oper.wp execOp
  simp only [hop, resolve, invoke, builtin, Sem.run_bind, Sem.run_pure, Result.andThen_ok, List.map_toArray, List.map_cons, List.map_nil, hs, hx, hrun]
  refine hK _ _ (h b _ _ ⟨of, c, by simp, by simpa using hr, hcm, ?_, ?_⟩ (.inl rfl) ?_)
  ·
   refine ⟨cur.setIfInBounds (of + xs.length * i.size) (.int .i64 y), ?_, by simp; omega⟩
   simp [World.setCells, World.setCell, Array.getElem?_modify, hh]
  ·
   intro j u hu
   simp only [ints, List.map_append, List.map_cons, List.map_nil] at hu
   have hb2 : ((w.alloc (.cells #[.int .i64 y] 3)).setCells b (of + xs.length * i.size) [.int .i64 y]).heap[b]? = some (.cells (cur.setIfInBounds (of + xs.length * i.size) (.int .i64 y)) 3 (0, 0)) := by
    simp [World.setCells, World.setCell, Array.getElem?_modify, hh]
   rw [cell_of_row _ b _ _ _ (0, 0) hb2]
   rcases Nat.lt_or_ge j xs.length with hj | hj
   ·
    rw [List.getElem?_append_left (by simpa using hj)] at hu
    have := hxs j u hu
    rw [cell_of_row _ b _ cur _ (0, 0) hh] at this
    rw [Array.getElem?_setIfInBounds_ne (by rw [hsz]; omega)]
    exact this
   ·
    rw [List.getElem?_append_right (by simpa using hj)] at hu
    have hj0 : j = xs.length := by
     have := (List.getElem?_eq_some_iff.1 hu).1
     simp at this; omega
    subst hj0
    simp at hu
    rw [hsz, Nat.mul_one, Array.getElem?_setIfInBounds_self_of_lt (by omega), hu]
  ·
   refine ⟨rfl, rfl, rfl, by simp [World.setCells, World.setCell], fun k hk hne => ?_⟩
   rw [World.heap_setCells_other _ _ _ _ (by simp; omega) (fun e => hne (by rw [e]))]
   exact Below.heap_alloc w _ k hk
 ·
  obtain ⟨v', w', hrun, hown, hg⟩ := run_append_arg_grows (P := Tryz.prog) (w.alloc (.cells #[.int .i64 y] 3)) 32 o.type 3 i _ 1 8 hu hi hz hsz hby hzs (by omega) ⟨b, of, none⟩ xs.length c (ints xs) (by rw [len_ints]; omega) (fun j u hu => by rw [Addr.add_lit]; exact hxs j u hu)
   ⟨w.heap.size, 0, none⟩ 1 1 [.int .i64 y] rfl hcell (by omega) (by unfold maxLen; omega) (by omega)
  unfold Oper.wp execOp
  simp only [hop, resolve, invoke, builtin, Sem.run_bind, Sem.run_pure, Result.andThen_ok, List.map_toArray, List.map_cons, List.map_nil, hs, hx, hrun]
  have hg2 : w.grownBy w' (some b) := ⟨hg.os, hg.tape, hg.output, Nat.le_trans (by simp) hg.size, fun k hk hne => (hg.block k (by simp; omega) (by simp)).trans (Below.heap_alloc w _ k hk)⟩
  rcases hown.2 with ⟨_, h0⟩ | ⟨k, cap, cur2, rfl, hbk, hh2, hn2, hc2, hs2, ht2⟩
  · omega
  ·
   refine hK _ _ (h k _ _ ⟨0, cap, by simp, by simpa using hn2, hc2, ⟨cur2, hh2, by rw [hs2]; omega⟩, fun j u hu => ?_⟩ (.inr (by simp at hbk; omega)) hg2)
   rw [Nat.zero_add, cell_of_row _ k j cur2 _ (0, 0) hh2]
   have e2 : ints (xs ++ [y]) = ints xs ++ [.int .i64 y] := by simp [ints]
   rw [e2, ← ht2, List.getElem?_take] at hu
   split at hu
   · simpa using hu
   · cases hu
end
theorem vertex_any (n v : Int) (w : World) :
  Calls Tryz.prog 102 #[.int .i64 n, .int .i64 v] w fun e w' => e = .returned (.bool (placeB n v)) ∧ w = w' := by
 by_cases h1 : 0 ≤ v
 ·
  go_enter Tryz.func102, Tryz.ntmps102
  go_wp2
  go_ret
  exact ⟨ret_bool (by simp [placeB, h1]), rfl⟩
 ·
  go_enter Tryz.func102, Tryz.ntmps102
  go_wp2
  go_ret
  exact ⟨ret_bool (by simp [placeB]; omega), rfl⟩
theorem vertex_is {n v : Int} (b : Bool) (h : placeB n v = b) (w : World) :
  Calls Tryz.prog 102 #[.int .i64 n, .int .i64 v] w fun e w' => e = .returned (.bool b) ∧ w = w' := by
 rw [← h]; exact vertex_any n v w
theorem other_any (x y t v : Int) (w : World) :
  Calls Tryz.prog 104 #[.agg #[.int .i64 x, .int .i64 y, .int .i64 t], .int .i64 v] w fun e w' => e = .returned (.int .i64 (oth (x, y) v)) ∧ Below w.heap.size w w' := by
 by_cases h : x = v
 ·
  have e1 : (x == v) = true := by simp [h]
  have H := hid h
  clear h
  go_enter Tryz.func104, Tryz.ntmps104
  go_wp2
  go_ret
  exact ⟨ret_int (by simp [oth, H.out]), bel_new _ _⟩
 ·
  have e1 : (x == v) = false := by simp [h]
  have H := hid h
  clear h
  go_enter Tryz.func104, Tryz.ntmps104
  go_wp2
  go_ret
  exact ⟨ret_int (by simp [oth, H.out]), bel_new _ _⟩
theorem other_is {x y t v z : Int} (h : oth (x, y) v = z) (w : World) :
  Calls Tryz.prog 104 #[.agg #[.int .i64 x, .int .i64 y, .int .i64 t], .int .i64 v] w fun e w' => e = .returned (.int .i64 z) ∧ Below w.heap.size w w' := by
 rw [← h]; exact other_any x y t v w
theorem fst_may {n : Nat} {l : List Ed} (h : Fst n (uv l)) : mayB n l = true := (mayB_iff n l).2 h.1
theorem fst_many {n : Nat} {l : List Ed} (h : Fst n (uv l)) : (manyZ (partOf n (uv l)) : Int) = (n : Int) - (l.length : Int) := by
 have h1 := (rightB_iff _).2 (Rt_partOf h.1)
 have h2 := h.2
 have h3 : (uv l).length = l.length := by simp [uv]
 unfold manyZ
 rw [h1]
 simp
 omega
theorem gright_yes {n : Nat} (hn : n ≤ 1024) {v : Value} {m : Nat} {l : List Ed} {w : World} (hs : Sl w w.heap.size 3 v m (eds l)) (hf : Fst n (uv l)) :
    Calls Tryz.prog 44 #[.int .i64 n, v] w fun e w' => e = .returned (.bool true) ∧ Below w.heap.size w w' := by
  have hl : l.length = m := by have := hs.len; rw [len_eds] at this; omega
  subst hl
  have HS := hid hs
  obtain ⟨A, c, rfl, hnc, hcm, hll, hx⟩ := hs
  have hm := hid (fst_may hf)
  obtain ⟨k, hk⟩ : ∃ k : Int, k = (n : Int) - (l.length : Int) := ⟨_, rfl⟩
  have hmany : Hid ((manyZ (partOf n (uv l)) : Int) = k) := hid (by rw [hk]; exact fst_many hf)
  have hcm' : (l.length : Int) ≤ 9223372036854775807 := by unfold maxLen at hcm; omega
  have hle : l.length ≤ n := by have := hf.2; have h3 : (uv l).length = l.length := by simp [uv]
                                omega
  have r1 : (k == k) = true := by simp
  have hk2 : (n : Int) - (l.length : Int) = k := hk.symm
  clear hll hx hf hcm hk
  go_enter Tryz.func44, Tryz.ntmps44
  go_wp2_with fail
  refine (of_ok hn HS.out (Nat.le_refl _) hm.out).mono ?_; rintro e w1 ⟨v1, rfl, hS, hB⟩
  have HB := hid hB
  clear hB
  go_wp2_with fail
  refine (many_is k hmany.out hS).mono ?_; rintro e w' ⟨rfl, rfl⟩
  go_wp2
  go_ret
  exact ⟨rfl, HB.out⟩

theorem gright_no {n : Nat} (hn : n ≤ 1024) {v : Value} {m : Nat} {l : List Ed} {w : World} (hs : Sl w w.heap.size 3 v m (eds l)) (hf : ¬ Fst n (uv l)) :
  Calls Tryz.prog 44 #[.int .i64 n, v] w fun e w' => e = .returned (.bool false) ∧ Below w.heap.size w w' := by
 have hl : l.length = m := by have := hs.len; rw [len_eds] at this; omega
 subst hl
 have HS := hid hs
 obtain ⟨A, c, rfl, hnc, hcm, hll, hx⟩ := hs
 have hcm' : (l.length : Int) ≤ 9223372036854775807 := by unfold maxLen at hcm; omega
 cases hm : mayB n l
 ·
  have HM := hid hm
  clear hll hx hf hcm hm
  go_enter Tryz.func44, Tryz.ntmps44
  go_wp2_with fail
  refine (of_no hn HS.out (Nat.le_refl _) HM.out).mono ?_; rintro e w1 ⟨rfl, hB⟩
  have HB := hid hB
  clear hB
  go_wp2
  go_ret
  exact ⟨rfl, HB.out⟩
 ·
  have HM := hid hm
  have hml := (mayB_iff n l).1 hm
  obtain ⟨k, hk⟩ : ∃ k : Nat, k = manyZ (partOf n (uv l)) := ⟨_, rfl⟩
  have hkl : k ≤ 1024 := by
   have h1 := (rightB_iff _).2 (Rt_partOf hml)
   have h2 := cntK_le (partOf n (uv l)) (partOf n (uv l)).length
   rw [cntK_all, len_partOf] at h2
   rw [hk]; unfold manyZ; rw [h1]; simp; omega
  have r1 : ((k : Int) == (n : Int) - (l.length : Int)) = false := by
   rw [beq_eq_false_iff_ne]
   intro h
   apply hf
   refine ⟨hml, ?_⟩
   have h1 := (rightB_iff _).2 (Rt_partOf hml)
   have h3 : (uv l).length = l.length := by simp [uv]
   unfold manyZ at hk
   rw [h1] at hk
   simp at hk
   omega
  have HK : Hid ((manyZ (partOf n (uv l)) : Int) = (k : Int)) := hid (by rw [hk])
  clear hll hx hf hcm hm hml hk
  go_enter Tryz.func44, Tryz.ntmps44
  go_wp2_with fail
  refine (of_ok hn HS.out (Nat.le_refl _) HM.out).mono ?_; rintro e w1 ⟨v1, rfl, hS, hB⟩
  have HB := hid hB
  clear hB
  go_wp2_with fail
  refine (many_is (k : Int) HK.out hS).mono ?_; rintro e w' ⟨rfl, rfl⟩
  go_wp2
  go_ret
  exact ⟨rfl, HB.out⟩
end Go.Proofs.YtahodfikhocobaaGreatDoor
namespace Go.Proofs.YtahodfikhocobaaGreatDoor
open Go.RowKit
set_option linter.unusedVariables false
set_option linter.unusedSimpArgs false
attribute [local go_sem ↓] Go.wp_at_zero Go.wp_at_succ
def lessE (a b : Int × Int × Int) : Bool := decide (a.1 < b.1) || (decide (a.1 = b.1) && decide (a.2.1 < b.2.1))
theorem less_any (x y t x2 y2 t2 : Int) (w : World) :
  Calls Tryz.prog 57 #[.agg #[.int .i64 x, .int .i64 y, .int .i64 t], .agg #[.int .i64 x2, .int .i64 y2, .int .i64 t2]] w fun e w' => e = .returned (.bool (lessE (x, y, t) (x2, y2, t2))) ∧ Below w.heap.size w w' := by
 have hb : Below w.heap.size w ((w.alloc (.cells #[.int .i64 x, .int .i64 y, .int .i64 t] 35)).alloc (.cells #[.int .i64 x2, .int .i64 y2, .int .i64 t2] 35)) := Bl.new (bel_new _ _) _
 have HB := hid hb
 clear hb
 rcases Int.lt_trichotomy x x2 with h | h | h
 ·
  have H : Hid (lessE (x, y, t) (x2, y2, t2) = true) := hid (by simp [lessE, h])
  go_enter Tryz.func57, Tryz.ntmps57
  go_wp2
  go_ret
  exact ⟨ret_bool H.out.symm, HB.out⟩
 ·
  subst h
  have h1 : ¬ x < x := by omega
  have e1 : (x == x) = true := by simp
  by_cases hy : y < y2
  ·
   have H : Hid (lessE (x, y, t) (x, y2, t2) = true) := hid (by simp [lessE, hy])
   go_enter Tryz.func57, Tryz.ntmps57
   go_wp2
   go_ret
   exact ⟨ret_bool H.out.symm, HB.out⟩
  ·
   have H : Hid (lessE (x, y, t) (x, y2, t2) = false) := hid (by simp [lessE, hy])
   go_enter Tryz.func57, Tryz.ntmps57
   go_wp2
   go_ret
   exact ⟨ret_bool H.out.symm, HB.out⟩
 ·
  have h1 : ¬ x < x2 := by omega
  have e1 : (x == x2) = false := by simp; omega
  have H : Hid (lessE (x, y, t) (x2, y2, t2) = false) := hid (by simp [lessE]; omega)
  go_enter Tryz.func57, Tryz.ntmps57
  go_wp2
  go_ret
  exact ⟨ret_bool H.out.symm, HB.out⟩
theorem less_is {x y t x2 y2 t2 : Int} (b : Bool) (h : lessE (x, y, t) (x2, y2, t2) = b) (w : World) :
  Calls Tryz.prog 57 #[.agg #[.int .i64 x, .int .i64 y, .int .i64 t], .agg #[.int .i64 x2, .int .i64 y2, .int .i64 t2]] w fun e w' => e = .returned (.bool b) ∧ Below w.heap.size w w' := by
 rw [← h]; exact less_any x y t x2 y2 t2 w
theorem tiered_is {t : Int} (b : Bool) (h : (0 ≤ t ∧ t ≤ 16) ↔ b = true) (w : World) : Calls Tryz.prog 69 #[.int .i64 t] w fun e w' => e = .returned (.bool b) ∧ w = w' := by
 by_cases h1 : 0 ≤ t
 ·
  by_cases h2 : t ≤ 16
  ·
   have HB : Hid (b = true) := hid (h.1 ⟨h1, h2⟩)
   clear h
   go_enter Tryz.func69, Tryz.ntmps69
   go_wp2
   go_ret
   exact ⟨by rw [HB.out]; rfl, rfl⟩
  ·
   have HB : Hid (b = false) := hid (by cases b with | false => rfl | true => exact absurd (h.2 rfl).2 h2)
   clear h
   go_enter Tryz.func69, Tryz.ntmps69
   go_wp2
   go_ret
   exact ⟨by rw [HB.out]; rfl, rfl⟩
 ·
  have HB : Hid (b = false) := hid (by cases b with | false => rfl | true => exact absurd (h.2 rfl).1 h1)
  clear h
  go_enter Tryz.func69, Tryz.ntmps69
  go_wp2
  go_ret
  exact ⟨by rw [HB.out]; rfl, rfl⟩
def EdOk (n : Int) (e : Int × Int × Int) : Prop := 0 ≤ e.1 ∧ e.1 < e.2.1 ∧ e.2.1 < n ∧ 0 ≤ e.2.2 ∧ e.2.2 ≤ 16
def TabPre (n : Int) (l : List (Int × Int × Int)) (i : Nat) : Prop := ∀ j, (h : j < l.length) → j < i → EdOk n l[j] ∧ ∀ k, (hk : k + 1 = j) → lessE (l[k]'(by omega)) l[j] = true
def TabR (n : Int) (l : List (Int × Int × Int)) : Prop := (0 ≤ n ∧ n ≤ 1024) ∧ TabPre n l l.length
theorem tab_next {n : Int} {l : List (Int × Int × Int)} {i : Nat} (hp : TabPre n l i) (h1 : ∀ (h : i < l.length), EdOk n l[i] ∧ ∀ k, (hk : k + 1 = i) → lessE (l[k]'(by omega)) l[i] = true) : TabPre n l (i + 1) := by
 intro j h hj
 rcases Nat.lt_or_ge j i with h3 | h3
 · exact hp j h h3
 ·
  have : j = i := by omega
  subst this
  exact h1 h
theorem tab_no {n : Int} {l : List (Int × Int × Int)} {b : Bool} (hb : TabR n l ↔ b = true) {i : Nat} (hi : i < l.length) (h : ¬ EdOk n l[i]) : b = false := by
 cases b with
 | false => rfl
 | true => exact absurd ((hb.2 rfl).2 i hi hi).1 h
theorem tab_no2 {n : Int} {l : List (Int × Int × Int)} {b : Bool} (hb : TabR n l ↔ b = true) {i : Nat} (hi : i + 1 < l.length) (h : lessE (l[i]'(by omega)) l[i + 1] = false) : b = false := by
 cases b with
 | false => rfl
 | true =>
  have := ((hb.2 rfl).2 (i + 1) hi hi).2 i rfl
  rw [h] at this; cases this
set_option maxRecDepth 100000 in
set_option maxHeartbeats 8000000 in
theorem tright_is {n : Int} {v : Value} {m : Nat} {l : List (Int × Int × Int)} {w : World} (hs : Sl w w.heap.size 3 v m (eds l)) (b : Bool) (hb : TabR n l ↔ b = true) :
  Calls Tryz.prog 43 #[.int .i64 n, v] w fun e w' => e = .returned (.bool b) ∧ Below w.heap.size w w' := by
 have hl : l.length = m := by have := hs.len; rw [len_eds] at this; omega
 have HB := hid hb
 obtain ⟨A, c, rfl, hnc, hcm, hll, hx⟩ := hs
 have hm : m ≤ 9223372036854775807 := by unfold maxLen at hcm; omega
 have HX := hid hx
 have HL := hid hl
 clear hx hll hl hb hcm hnc
 by_cases h1 : 0 ≤ n
 case neg =>
  have HF : Hid (b = false) := hid (by cases b with | false => rfl | true => exact absurd (HB.out.2 rfl).1.1 h1)
  go_enter Tryz.func43, Tryz.ntmps43
  go_wp2
  go_ret
  exact ⟨by rw [HF.out]; rfl, Below.refl _ _⟩
 case pos =>
  by_cases h2 : n ≤ 1024
  case neg =>
   have HF : Hid (b = false) := hid (by cases b with | false => rfl | true => exact absurd (HB.out.2 rfl).1.2 h2)
   go_enter Tryz.func43, Tryz.ntmps43
   go_wp2
   go_ret
   exact ⟨by rw [HF.out]; rfl, Below.refl _ _⟩
  case pos =>
   have HN := hid (And.intro h1 h2)
   go_enter Tryz.func43, Tryz.ntmps43
   go_wp2_with fail
   go_loopw [15] (fun iv wr => ∃ i : Nat, i ≤ m ∧ iv = .int .i64 (i : Int) ∧ Hid (TabPre n l i) ∧ Hid (Below w.heap.size w wr)) (fun iv _ => m - (intOf iv).toNat)
   case atStart => exact ⟨0, Nat.zero_le _, rfl, hid (fun j _ hj => absurd hj (Nat.not_lt_zero _)), hid (Below.refl _ _)⟩
   case round =>
    obtain ⟨i, hi, rfl, HP, HBr⟩ := hrel
    obtain ⟨w1, rfl⟩ : ∃ x, x = wr := ⟨wr, rfl⟩
    by_cases hlt : i < m
    ·
     have j0 : (i : Int) < (m : Int) := by omega
     have hil : i < l.length := by rw [HL.out]; exact hlt
     obtain ⟨b6, o6, rfl, hb6, hc6⟩ := HX.out (by omega)
     obtain ⟨p0, p1, p2⟩ := eds_cell hc6 hil
     have q0 := (HBr.out.cell (p := ⟨b6, o6 + i * 3, none⟩) hb6).trans p0
     have q1 := (HBr.out.cell (p := ⟨b6, o6 + i * 3 + 1, none⟩) hb6).trans p1
     have q2 := (HBr.out.cell (p := ⟨b6, o6 + i * 3 + 2, none⟩) hb6).trans p2
     have HNO := hid (tab_no HB.out hil)
     have HNX := hid (fun (h1 : EdOk n l[i]) (h2 : ∀ k, (hk : k + 1 = i) → lessE (l[k]'(by omega)) l[i] = true) => tab_next HP.out (fun _ => ⟨h1, h2⟩))
     obtain ⟨e, he⟩ : ∃ e, e = l[i] := ⟨_, rfl⟩
     rw [← he] at q0 q1 q2 HNO HNX
     have HE := hid he
     obtain ⟨x, y, t⟩ := e
     dsimp only at q0 q1 q2
     clear he p0 p1 p2
     have HBN := hid (Bl.new HBr.out (.cells #[.int .i64 x, .int .i64 y, .int .i64 t] 35))
     by_cases k1 : x < 0
     case pos =>
      have HF : Hid (b = false) := hid (HNO (fun h => by simp only [EdOk] at h; omega))
      clear HNO HNX HE hil hc6
      go_wp2
      go_ret
      exact ⟨by rw [HF.out]; rfl, HBN.out⟩
     by_cases k2 : y ≤ x
     case pos =>
      have HF : Hid (b = false) := hid (HNO (fun h => by simp only [EdOk] at h; omega))
      clear HNO HNX HE hil hc6
      go_wp2
      go_ret
      exact ⟨by rw [HF.out]; rfl, HBN.out⟩
     by_cases k3 : n ≤ y
     case pos =>
      have HF : Hid (b = false) := hid (HNO (fun h => by simp only [EdOk] at h; omega))
      clear HNO HNX HE hil hc6
      go_wp2
      go_ret
      exact ⟨by rw [HF.out]; rfl, HBN.out⟩
     have l1 : 0 ≤ x := by omega
     have l2 : x < y := by omega
     have l3 : y < n := by omega
     by_cases k4 : 0 ≤ t ∧ t ≤ 16
     case neg =>
      have HF : Hid (b = false) := hid (HNO (fun h => by simp only [EdOk] at h; omega))
      have HT : Hid ((0 ≤ t ∧ t ≤ 16) ↔ false = true) := hid (by simp only [k4]; simp)
      clear HNO HNX HE hil hc6 k4
      go_wp2_with fail
      refine (tiered_is false HT.out _).mono ?_; rintro e w' ⟨rfl, rfl⟩
      go_wp2
      go_ret
      exact ⟨by rw [HF.out]; rfl, HBN.out⟩
     case pos =>
      have HT : Hid (0 ≤ t ∧ t ≤ 16) := hid k4
      have HOKE : Hid (EdOk n (x, y, t)) := hid ⟨l1, l2, l3, k4.1, k4.2⟩
      clear k4 HNO
      go_wp2_with fail
      refine (tiered_is true ⟨fun _ => rfl, fun _ => HT.out⟩ _).mono ?_; rintro e w' ⟨rfl, rfl⟩
      go_wp2_with fail
      cases i with
      | zero =>
       have HN2 := hid (HNX HOKE.out (fun k hk => by omega))
       clear HNX HE hil hc6 q0 q1 q2
       go_quiet (fail)
       go_wp2_with fail
       go_roundw
       case rel => exact ⟨1, by omega, rfl, HN2, hid (Bl.qt HBN.out (qt_of _ _))⟩
       case measure => simp [intOf]; omega
      | succ i =>
       have hil2 : i < l.length := by omega
       obtain ⟨r0, r1, r2⟩ := eds_cell hc6 hil2
       have hz1 := HBr.out.size
       have s0 := cell_later (bel_new w1 (.cells #[.int .i64 x, .int .i64 y, .int .i64 t] 35)) ((HBr.out.cell (p := ⟨b6, o6 + i * 3, none⟩) hb6).trans r0)
       have s1 := cell_later (bel_new w1 (.cells #[.int .i64 x, .int .i64 y, .int .i64 t] 35)) ((HBr.out.cell (p := ⟨b6, o6 + i * 3 + 1, none⟩) hb6).trans r1)
       have s2 := cell_later (bel_new w1 (.cells #[.int .i64 x, .int .i64 y, .int .i64 t] 35)) ((HBr.out.cell (p := ⟨b6, o6 + i * 3 + 2, none⟩) hb6).trans r2)
       have e0 := (Blk.new w1 35 [.int .i64 x, .int .i64 y, .int .i64 t]).cell 0
       have e1 := (Blk.new w1 35 [.int .i64 x, .int .i64 y, .int .i64 t]).cell 1
       have e2 := (Blk.new w1 35 [.int .i64 x, .int .i64 y, .int .i64 t]).cell 2
       have HNL := hid (fun h : lessE l[i] l[i + 1] = false => tab_no2 HB.out hil h)
       have HNX2 : Hid (lessE l[i] (x, y, t) = true → TabPre n l (i + 1 + 1)) := hid (fun h => by
        refine HNX HOKE.out (fun k hk => ?_)
        obtain rfl : k = i := by omega
        exact h)
       rw [← HE.out] at HNL
       obtain ⟨pe, hpe⟩ : ∃ e, e = l[i] := ⟨_, rfl⟩
       rw [← hpe] at s0 s1 s2 HNL HNX2
       obtain ⟨px, py, pt⟩ := pe
       dsimp only at s0 s1 s2
       have j9 : IntKind.i64.wrap ((i : Int) + 1 - 1) = (i : Int) := by rw [IntKind.wrap_i64]; omega
       have j8 : (i : Int) + 1 < (m : Int) := by omega
       have j10 : IntKind.i64.wrap (((i + 1 : Nat) : Int) - 1) = (i : Int) := by rw [IntKind.wrap_i64]; omega
       have j7 : (i : Int) < (m : Int) := by omega
       have j6 : (0 : Int) ≤ (i : Int) := by omega
       have j5 : (0 : Int) < ((i + 1 : Nat) : Int) := by omega
       have j4 : (0 : Int) < (i : Int) + 1 := by omega
       have j3 : IntKind.i64.wrap (i : Int) = (i : Int) := IntWalk.i64_in _ (by omega)
       have jm : (m : Int) ≤ 9223372036854775807 := by omega
       clear HNX HE hil hil2 hc6 r0 r1 r2 hpe q0 q1 q2
       have NK := Nat.lt_succ_self w1.heap.size
       obtain ⟨KB, hKB⟩ : ∃ K, K = w1.heap.size := ⟨_, rfl⟩
       obtain ⟨w2, hw2⟩ : ∃ W, W = w1.alloc (.cells #[.int .i64 x, .int .i64 y, .int .i64 t] 35) := ⟨_, rfl⟩
       have HB2 : Hid (Below w.heap.size w w2) := hid (by rw [hw2]; exact HBN.out)
       rw [← hKB, ← hw2] at e0 e1 e2 ⊢
       rw [← hw2] at s0 s1 s2
       clear hKB hw2 NK HBN
       cases hls : lessE (px, py, pt) (x, y, t) with
       | true =>
        have HN2 := hid (HNX2.out hls)
        have HLS := hid hls
        clear hls
        go_region_held3 (fun w' => w'.cell? ⟨b6, o6 + i * 3, none⟩ = some (.int .i64 px) ∧ w'.cell? ⟨b6, o6 + i * 3 + 1, none⟩ = some (.int .i64 py) ∧ w'.cell? ⟨b6, o6 + i * 3 + 2, none⟩ = some (.int .i64 pt) ∧ w'.cell? ⟨KB, 0, none⟩ = some (.int .i64 x) ∧ w'.cell? ⟨KB, 1, none⟩ = some (.int .i64 y) ∧ w'.cell? ⟨KB, 2, none⟩ = some (.int .i64 t))
         (first | go_keep | (go_split_ands; and_intros <;> (first | (refine cell_later (by assumption) ?_; first | assumption | (rw [Qt.cell (qt_of _ _)]; assumption) | (rw [Qt.cell (qt_drew _)]; assumption)) | (refine cell_later (bel_new _ _) ?_; assumption))) | (refine cell_later (by assumption) ?_; first | assumption | (rw [Qt.cell (qt_of _ _)]; assumption) | (rw [Qt.cell (qt_drew _)]; assumption)) | (refine cell_later (bel_new _ _) ?_; assumption))
         ((go_at_call 57; (with_reducible refine (less_is true HLS.out _).mono ?_); rintro e w5 ⟨rfl, b5⟩))
        all_goals
         go_wp2_with fail
         go_roundw
         case rel => exact ⟨i + 1 + 1, by omega, by go_num, HN2, hid (by repeat (first | exact HB2.out | refine Bl.new ?_ _ | refine Bl.call ?_ (by assumption) | refine Bl.qt ?_ (by assumption) | refine Bl.qt ?_ (qt_drew _) | refine Bl.qt ?_ (qt_of _ _)))⟩
         case measure => simp [intOf]; omega
       | false =>
        have HF := hid (HNL.out hls)
        have HLS := hid hls
        clear hls
        go_region_held3 (fun w' => w'.cell? ⟨b6, o6 + i * 3, none⟩ = some (.int .i64 px) ∧ w'.cell? ⟨b6, o6 + i * 3 + 1, none⟩ = some (.int .i64 py) ∧ w'.cell? ⟨b6, o6 + i * 3 + 2, none⟩ = some (.int .i64 pt) ∧ w'.cell? ⟨KB, 0, none⟩ = some (.int .i64 x) ∧ w'.cell? ⟨KB, 1, none⟩ = some (.int .i64 y) ∧ w'.cell? ⟨KB, 2, none⟩ = some (.int .i64 t))
         (first | go_keep | (go_split_ands; and_intros <;> (first | (refine cell_later (by assumption) ?_; first | assumption | (rw [Qt.cell (qt_of _ _)]; assumption) | (rw [Qt.cell (qt_drew _)]; assumption)) | (refine cell_later (bel_new _ _) ?_; assumption))) | (refine cell_later (by assumption) ?_; first | assumption | (rw [Qt.cell (qt_of _ _)]; assumption) | (rw [Qt.cell (qt_drew _)]; assumption)) | (refine cell_later (bel_new _ _) ?_; assumption))
         ((go_at_call 57; (with_reducible refine (less_is false HLS.out _).mono ?_); rintro e w5 ⟨rfl, b5⟩))
        all_goals
         go_wp2
         go_ret
         exact ⟨by rw [HF.out]; rfl, (by repeat (first | exact HB2.out | refine Bl.new ?_ _ | refine Bl.call ?_ (by assumption) | refine Bl.qt ?_ (by assumption) | refine Bl.qt ?_ (qt_drew _) | refine Bl.qt ?_ (qt_of _ _)))⟩
    ·
     have j0 : ¬ (i : Int) < (m : Int) := by omega
     obtain rfl : i = m := by omega
     have HF : Hid (b = true) := hid (HB.out.1 ⟨HN.out, by rw [HL.out]; exact HP.out⟩)
     go_wp2
     go_ret
     exact ⟨by rw [HF.out]; rfl, HBr.out⟩
theorem Tedg : SlT 26 35 (.agg #[.int .i64 0, .int .i64 0, .int .i64 0]) 3 24 := SlT.mk Tryz.underlying26 (by kernel_rfl) rfl (by decide) (by decide)
def frs (k : Int) (l : List (Int × Int × Int)) : List (Int × Int × Int) := l.filter fun e => decide (1 ≤ e.2.2) && decide (e.2.2 ≤ k)
theorem frs_yes {k : Int} {l : List (Int × Int × Int)} {j : Nat} (h : j < l.length) (h2 : 1 ≤ l[j].2.2 ∧ l[j].2.2 ≤ k) : frs k (l.take (j + 1)) = frs k (l.take j) ++ [l[j]] := by
 unfold frs
 rw [List.take_succ_eq_append_getElem h, List.filter_append]
 simp [h2]
theorem frs_no {k : Int} {l : List (Int × Int × Int)} {j : Nat} (h : j < l.length) (h2 : ¬ (1 ≤ l[j].2.2 ∧ l[j].2.2 ≤ k)) : frs k (l.take (j + 1)) = frs k (l.take j) := by
 unfold frs
 rw [List.take_succ_eq_append_getElem h, List.filter_append]
 simp only [List.filter_cons, List.filter_nil]
 rw [if_neg]
 · simp
 · simpa using h2
def FrsPost (w : World) (l : List (Int × Int × Int)) (e : Ending) (w' : World) : Prop := ∃ v, e = .returned v ∧ Sl w' w'.heap.size 3 v l.length (eds l) ∧ Below w.heap.size w w'
set_option maxRecDepth 100000 in
set_option maxHeartbeats 8000000 in
theorem tforest_any {n k : Int} {v : Value} {m : Nat} {l : List (Int × Int × Int)} {w : World} (hs : Sl w w.heap.size 3 v m (eds l)) (ht : TabR n l) (hm : m ≤ 1000000) :
  Calls Tryz.prog 45 #[.int .i64 n, v, .int .i64 k] w (FrsPost w (frs k l)) := by
 have hl : l.length = m := by have := hs.len; rw [len_eds] at this; omega
 have HS := hid hs
 have HT := hid ht
 obtain ⟨A, c, rfl, hnc, hcm, hll, hx⟩ := hs
 have HX := hid hx
 have HL := hid hl
 clear hx hll hl ht hcm hnc
 go_enter Tryz.func45, Tryz.ntmps45
 go_wp2_with fail
 refine (tright_is HS.out true ⟨fun _ => rfl, fun _ => HT.out⟩).mono ?_; rintro e w2 ⟨rfl, b2⟩
 have HB2 := hid b2
 clear b2
 go_wp2_with fail
 go_loopw [7, 16] (fun ov iv wr => ∃ (i q : Nat), i ≤ m ∧ iv = .int .i64 (i : Int) ∧ q ≤ i ∧ Hid ((frs k (l.take i)).length = q) ∧ Hid (wr.ownsRow w2.heap.size 35 3 ov q (eds (frs k (l.take i)))) ∧ Hid (Below w2.heap.size w2 wr)) (fun _ iv _ => m - (intOf iv).toNat)
 case atStart => exact ⟨0, 0, Nat.zero_le _, rfl, Nat.le_refl _, hid rfl, hid (World.ownsRow_nil _ _ _ _), hid (Below.refl _ _)⟩
 case round =>
  obtain ⟨i, q, hi, rfl, hqi, HQ, HO, HB⟩ := hrel
  by_cases hlt : i < m
  ·
   have j0 : (i : Int) < (m : Int) := by omega
   have hil : i < l.length := by rw [HL.out]; exact hlt
   obtain ⟨b6, o6, rfl, hb6, hc6⟩ := HX.out (by omega)
   obtain ⟨p0, p1, p2⟩ := eds_cell hc6 hil
   have hb7 := Nat.lt_of_lt_of_le hb6 HB2.out.size
   have q0 := (HB.out.cell (p := ⟨b6, o6 + i * 3, none⟩) hb7).trans ((HB2.out.cell (p := ⟨b6, o6 + i * 3, none⟩) hb6).trans p0)
   have q1 := (HB.out.cell (p := ⟨b6, o6 + i * 3 + 1, none⟩) hb7).trans ((HB2.out.cell (p := ⟨b6, o6 + i * 3 + 1, none⟩) hb6).trans p1)
   have q2 := (HB.out.cell (p := ⟨b6, o6 + i * 3 + 2, none⟩) hb7).trans ((HB2.out.cell (p := ⟨b6, o6 + i * 3 + 2, none⟩) hb6).trans p2)
   have HY := hid (fun h => frs_yes (k := k) hil h)
   have HNO := hid (fun h => frs_no (k := k) hil h)
   obtain ⟨e, he⟩ : ∃ e, e = l[i] := ⟨_, rfl⟩
   rw [← he] at q0 q1 q2 HNO HY
   obtain ⟨x, y, t⟩ := e
   dsimp only at q0 q1 q2
   clear he p0 p1 p2 hc6 hb7
   have HBN := hid (HB.out.alloc HB.out.size (.cells #[.int .i64 x, .int .i64 y, .int .i64 t] 35))
   by_cases ht : 1 ≤ t ∧ t ≤ k
   ·
    obtain ⟨t1, t2⟩ := ht
    have HN := hid (HY.out ⟨t1, t2⟩)
    have HO2 := hid (HO.out.alloc (.cells #[.int .i64 x, .int .i64 y, .int .i64 t] 35))
    have HH : Hid ((wr.alloc (.cells #[.int .i64 x, .int .i64 y, .int .i64 t] 35)).heap.size = wr.heap.size + 1) := hid (by simp)
    have HZ := hid HBN.out.size
    have hby : (q + 1) * 24 ≤ 140737488355328 := by omega
    clear HY HNO
    go_wp2_with (at_builtin; (refine wl_app1H rfl _ _ Tedg rfl (news := [.int .i64 x, .int .i64 y, .int .i64 t]) rfl HO2.out rfl HH.out rfl (eds_one [(x, y, t)]) hby HZ.out ?_))
    intro v9 w9 o9 b9
    have O9 : Hid (w9.ownsRow w2.heap.size 35 3 v9 (q + 1) (eds (frs k (l.take (i + 1))))) := hid (by rw [HN.out, ← eds_app]; exact o9)
    have HQ9 : Hid ((frs k (l.take (i + 1))).length = q + 1) := hid (by rw [HN.out, List.length_append, HQ.out]; rfl)
    have B9 := hid (HBN.out.trans b9)
    clear o9 b9
    go_wp2_with fail
    go_roundw
    case rel => exact ⟨i + 1, q + 1, by omega, by go_num, by omega, HQ9, O9, B9⟩
    case measure => simp [intOf]; omega
   ·
    have HN := hid (HNO.out ht)
    have HO2 := hid (HO.out.alloc (.cells #[.int .i64 x, .int .i64 y, .int .i64 t] 35))
    clear HY HNO
    by_cases t1 : 1 ≤ t
    ·
     have t2 : ¬ t ≤ k := fun h => ht ⟨t1, h⟩
     clear ht
     go_wp2_with fail
     go_roundw
     case rel => exact ⟨i + 1, q, by omega, by go_num, by omega, hid (by rw [HN.out]; exact HQ.out), hid (by rw [HN.out]; exact HO2.out), HBN⟩
     case measure => simp [intOf]; omega
    ·
     clear ht
     go_wp2_with fail
     go_roundw
     case rel => exact ⟨i + 1, q, by omega, by go_num, by omega, hid (by rw [HN.out]; exact HQ.out), hid (by rw [HN.out]; exact HO2.out), HBN⟩
     case measure => simp [intOf]; omega
  ·
   have j0 : ¬ (i : Int) < (m : Int) := by omega
   obtain rfl : i = m := by omega
   have HF : Hid (frs k (l.take i) = frs k l) := hid (by rw [List.take_of_length_le (by rw [HL.out]; exact Nat.le_refl _)])
   go_wp2
   go_ret
   exact ⟨_, rfl, by have h1 := Sl.of_own HO.out; have h2 := HQ.out; rw [HF.out] at h1 h2; rw [h2]; exact h1, HB2.out.trans (HB.out.mono HB2.out.size)⟩
end Go.Proofs.YtahodfikhocobaaGreatDoor
set_option linter.unusedVariables false
namespace Sk
open Md

def val (h : Nat × Nat) (n : Nat) : Nat := add (mul h.1 n) h.2
def bnd (j : Nat) : Nat := P / 2 ^ j
theorem bnd_succ (j : Nat) : bnd (j + 1) = bnd j / 2 := by unfold bnd; rw [Nat.pow_succ, Nat.div_div_eq_div_mul]
theorem bnd_le (i j : Nat) (h : i ≤ j) : bnd j ≤ bnd i := by
  induction j with
  | zero => have : i = 0 := by omega
            subst this; exact Nat.le_refl _
  | succ j ih =>
    rcases Nat.lt_or_ge j i with h1 | h1
    · have : i = j + 1 := by omega
      subst this; exact Nat.le_refl _
    · rw [bnd_succ]; have := ih h1; omega
def IsDeep (x lim d : Nat) : Prop := d ≤ lim ∧ ∀ j, j < lim → (j < d ↔ x < bnd j)
theorem deep_of {x lim d : Nat} (h1 : d ≤ lim) (h2 : ∀ j, j < d → x < bnd j) (h3 : d < lim → bnd d ≤ x) : IsDeep x lim d :=
 ⟨h1, fun j hj => ⟨h2 j, fun hx => by
  rcases Nat.lt_or_ge j d with h | h
  · exact h
  ·
   have := bnd_le d j h
   have := h3 (by omega)
   omega⟩⟩
def tog1 (h : Nat × Nat) (n j w : Nat) : Nat := if val h n < bnd j then w ^^^ n else w
def tog (l : List (Nat × Nat)) (v n : Nat) (ws : List Nat) : List Nat := ws.mapIdx fun t w => tog1 (l.getD (t / v) (0, 0)) n (t % v) w
def togs (l : List (Nat × Nat)) (v : Nat) (ns : List Nat) (ws : List Nat) : List Nat := ns.foldl (fun ws n => tog l v n ws) ws
theorem togs_snoc (l : List (Nat × Nat)) (v : Nat) (ns : List Nat) (n : Nat) (ws : List Nat) : togs l v (ns ++ [n]) ws = tog l v n (togs l v ns ws) := by
 unfold togs; rw [List.foldl_append]; rfl
def word (h : Nat × Nat) (j : Nat) (ns : List Nat) (w : Nat) : Nat := ns.foldl (fun w n => tog1 h n j w) w
theorem xor_lt (a b : Nat) (ha : a < 18446744073709551616) (hb : b < 18446744073709551616) : a ^^^ b < 18446744073709551616 := Nat.xor_lt_two_pow (n := 64) ha hb
def Small (l : List Nat) : Prop := ∀ x ∈ l, x < 18446744073709551616
end Sk
