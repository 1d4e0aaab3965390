/- Contract of awake; small facts on dictionaries. -/
import Derived.Test.YtkkhghipbnpiaaaDicD
namespace Go.Proofs.Ytkkhghipbnpiaaa
open Go.RowKit Sq
set_option linter.unusedVariables false

theorem IsD.other {w : World} {K : Nat} {T : TypeId} {u : Value} {v : Option Addr} {l : List (Int × Int)} (h : IsD w v l) (hb : Blk w K T [u]) (u' : Value) : IsD (w.setCell ⟨K, 0, none⟩ u') v l := by
  obtain ⟨t, h1, h2, h3, h4⟩ := h
  refine ⟨t, ?_, h2, h3, h4⟩
  have := h1.other hb u'
  simpa [World.setCell] using this
theorem ht_two {t : Tr (Int × Int)} (h : sz t = 2) : ht t = 2 := by
  cases t with
  | nil => simp [sz] at h
  | node a x b =>
    simp only [sz] at h
    rcases Nat.eq_zero_or_pos (sz a) with ha | ha
    · have hb : sz b = 1 := by omega
      have := ht_le_sz b
      have := ht_pos (t := b) (by omega)
      rw [sz_zero ha]
      simp only [ht]; omega
    · have hb : sz b = 0 := by omega
      have := ht_le_sz a
      have := ht_pos (t := a) ha
      rw [sz_zero hb]
      simp only [ht]; omega
def dawake1 : List (Int × Int) := Dc.put [] 5 50
def dawake2 : List (Int × Int) := Dc.put (Dc.put dawake1 3 30) 5 51
def dawake3 : List (Int × Int) := Dc.del dawake2 3
theorem da2 : dawake2 = [(3, 30), (5, 51)] := by decide
theorem da3 : dawake3 = [(5, 51)] := by decide
theorem from_is {pt : Option Addr} {l : List (Int × Int)} {k z : Int} {w : World} (h : IsD w pt l) (hl : l.length ≤ 100000) (hz : ((Dc.less l k : Nat) : Int) = z) :
    Calls Try.prog 19 #[.agg #[.pointer pt], .int .u64 k] w fun e w' => e = .returned (.int .i64 z) ∧ Below w.heap.size w w' := by
  obtain ⟨t, h1, -, rfl, h4⟩ := h
  rw [len_ls] at hl
  subst hz
  exact from_any h1 (by omega) h4
theorem get_is {pt : Option Addr} {l : List (Int × Int)} {k : Int} {w : World} (h : IsD w pt l) (hl : l.length ≤ 100000) (z : Int) (b : Bool) (hz : (Dc.get l k).getD 0 = z) (hb : (Dc.get l k).isSome = b) :
    Calls Try.prog 18 #[.agg #[.pointer pt], .int .u64 k] w fun e w' => e = .returned (.tuple #[.int .i64 z, .bool b]) ∧ Below w.heap.size w w' := by
  subst hz hb; exact get_any h hl
theorem delete_is {pt : Option Addr} {l : List (Int × Int)} {k : Int} {w : World} (h : IsD w pt l) (hl : l.length ≤ 100000) (m : List (Int × Int)) (b : Bool) (hm : Dc.del l k = m) (hb : (Dc.get l k).isSome = b) :
    Calls Try.prog 10 #[.agg #[.pointer pt], .int .u64 k] w (DelPost w m b) := by
  subst hm hb; exact delete_any h hl
theorem put_is {pt : Option Addr} {l : List (Int × Int)} {k n : Int} {w : World} (h : IsD w pt l) (hl : l.length ≤ 100000) (m : List (Int × Int)) (hm : Dc.put l k n = m) :
    Calls Try.prog 12 #[.agg #[.pointer pt], .int .u64 k, .int .i64 n] w (PutPost w m) := by
  subst hm; exact put_any h hl
def PairsIs (w : World) (l : List (Int × Int)) (n : Nat) (e : Ending) (w' : World) : Prop := ∃ v, e = .returned v ∧ Sl w' w'.heap.size 2 v n (prs l) ∧ Below w.heap.size w w'
theorem pairs_is {pt : Option Addr} {l : List (Int × Int)} {w : World} (h : IsD w pt l) (hl : l.length ≤ 100000) (m : List (Int × Int)) (n : Nat) (hm : l = m) (hn : m.length = n) :
    Calls Try.prog 16 #[.agg #[.pointer pt]] w (PairsIs w m n) := by
  subst hm hn; exact pairs_any h hl
theorem many_is {pt : Option Addr} {l : List (Int × Int)} {w : World} (h : IsD w pt l) (z : Int) (hz : ((l.length : Nat) : Int) = z) :
    Calls Try.prog 17 #[.agg #[.pointer pt]] w fun e w' => e = .returned (.int .i64 z) ∧ Below w.heap.size w w' := by
  subst hz; exact many_any h
theorem dheight_two {pt : Option Addr} {l : List (Int × Int)} {w : World} (h : IsD w pt l) (hl : l.length = 2) :
    Calls Try.prog 21 #[.agg #[.pointer pt]] w fun e w' => e = .returned (.int .i64 2) ∧ Below w.heap.size w w' := by
  refine (dheight_any h).mono ?_
  rintro e w' ⟨n, rfl, ⟨t, hb, hls, hn⟩, hbel⟩
  have : ht t = 2 := ht_two (by rw [← len_ls, hls, hl])
  rw [← hn, this]
  exact ⟨rfl, hbel⟩
theorem two_cells {w : World} {B : Nat} {v : Value} {a b c d : Int} (h : Sl w B 2 v 2 (prs [(a, b), (c, d)])) : ∃ k o cp, v = .slice (some ⟨k, o, none⟩) 2 cp ∧ w.cell? ⟨k, o, none⟩ = some (.int .u64 a) ∧ w.cell? ⟨k, o + 1, none⟩ = some (.int .i64 b) := by
  obtain ⟨A, cp, rfl, -, -, -, hx⟩ := h
  obtain ⟨k, o, rfl, -, hc⟩ := hx (by decide)
  have := prs_cell hc (k := 0) (by simp)
  exact ⟨k, o, cp, rfl, by simpa using this.1, by simpa using this.2⟩
set_option maxRecDepth 100000 in
set_option maxHeartbeats 4000000 in
theorem dAwake_any (w : World) : Calls Try.prog 8 #[] w (IsTrue w) := by
  have HB : Hid (Below w.heap.size w w) := hid (Below.refl _ _)
  have I_z : Hid (IsD w none []) := hid (IsD.none_ _)
  go_enter Try.func8, Try.ntmps8
  obtain ⟨w1, hw⟩ : ∃ w1, w1 = w.alloc (.cells #[.pointer none] 27) := ⟨_, rfl⟩
  obtain ⟨Kd, hK⟩ : ∃ Kd, Kd = w.heap.size := ⟨_, rfl⟩
  have b : Below w.heap.size w w1 := by rw [hw]; exact bel_new _ _
  have D_d' : Hid (Blk w1 Kd 27 [.pointer none]) := hid (by rw [hw, hK]; exact Blk.new w _ [.pointer none])
  have I_d' := hid (I_z.out.call b)
  have LO_d : Hid (w.heap.size ≤ Kd) := hid (by rw [hK]; exact HB.out.size)
  replace HB := hid (Bl.call HB.out b)
  have D_d := D_d'
  have I_d := I_d'
  have HW1 := hid hw
  have HK1 := hid hK
  clear b hw hK D_d' I_d' I_z
  have c_d : (w.alloc (.cells #[.pointer none] 27)).cell? ⟨Kd, 0, none⟩ = some (.pointer none) := by rw [← HW1.out]; exact D_d.out.cell 0
  have f_d : (w.alloc (.cells #[.pointer none] 27)).frozen? ⟨Kd, 0, none⟩ = false := by rw [← HW1.out]; exact D_d.out.frozen 0
  go_wp2_with fail
  rw [← HK1.out, ← HW1.out]
  clear c_d f_d
  refine (put_is (k := 5) (n := 50) I_d.out (by decide) (dawake1) rfl).mono ?_; rintro e w2 ⟨v1, rfl, i, b⟩
  replace D_d := hid (D_d.out.below b D_d.out.lt)
  replace I_d := hid (I_d.out.call b)
  replace HB := hid (Bl.call HB.out b)
  clear b
  have I_1 := hid i
  clear i
  have p_c : w2.cell? ⟨Kd, 0, none⟩ = some (.pointer none) := D_d.out.cell 0
  have p_f : w2.frozen? ⟨Kd, 0, none⟩ = false := D_d.out.frozen 0
  obtain ⟨w3, hw⟩ : ∃ w3, w3 = w2.setCell ⟨Kd, 0, none⟩ (.pointer v1) := ⟨_, rfl⟩
  replace I_d : Hid (IsD w3 v1 dawake1) := hid (by rw [hw]; exact I_1.out.other D_d.out (.pointer v1))
  replace HB : Hid (Below w.heap.size w w3) := hid (by rw [hw]; exact HB.out.setCell (p := ⟨Kd, 0, none⟩) LO_d.out (.pointer v1))
  replace D_d : Hid (Blk w3 Kd 27 [.pointer v1]) := hid (by rw [hw]; exact D_d.out.put 0 _)
  have HW3 := hid hw
  clear hw I_1
  have c_d : (w2.setCell ⟨Kd, 0, none⟩ (.pointer v1)).cell? ⟨Kd, 0, none⟩ = some (.pointer v1) := by rw [← HW3.out]; exact D_d.out.cell 0
  have f_d : (w2.setCell ⟨Kd, 0, none⟩ (.pointer v1)).frozen? ⟨Kd, 0, none⟩ = false := by rw [← HW3.out]; exact D_d.out.frozen 0
  go_wp2_with fail
  rw [← HW3.out]
  clear c_d f_d p_c p_f
  refine (put_is (k := 3) (n := 30) I_d.out (by decide) (Dc.put dawake1 3 30) rfl).mono ?_; rintro e w4 ⟨v2, rfl, i, b⟩
  replace D_d := hid (D_d.out.below b D_d.out.lt)
  replace I_d := hid (I_d.out.call b)
  replace HB := hid (Bl.call HB.out b)
  clear b
  have I_2 := hid i
  clear i
  have X := I_2
  have c_d : w4.cell? ⟨Kd, 0, none⟩ = some (.pointer v1) := D_d.out.cell 0
  have f_d : w4.frozen? ⟨Kd, 0, none⟩ = false := D_d.out.frozen 0
  go_wp2_with fail
  clear c_d f_d
  refine (put_is (k := 5) (n := 51) I_2.out (by decide) dawake2 rfl).mono ?_; rintro e w5 ⟨v3, rfl, i, b⟩
  replace D_d := hid (D_d.out.below b D_d.out.lt)
  replace I_d := hid (I_d.out.call b)
  replace HB := hid (Bl.call HB.out b)
  have I_3 := hid i
  clear i b X I_2
  obtain ⟨w6, hw⟩ : ∃ w6, w6 = w5.alloc (.cells #[.pointer v3] 27) := ⟨_, rfl⟩
  obtain ⟨Ke, hK⟩ : ∃ Ke, Ke = w5.heap.size := ⟨_, rfl⟩
  have b : Below w5.heap.size w5 w6 := by rw [hw]; exact bel_new _ _
  have D_e' : Hid (Blk w6 Ke 27 [.pointer v3]) := hid (by rw [hw, hK]; exact Blk.new w5 _ [.pointer v3])
  have I_e' := hid (I_3.out.call b)
  have LO_e : Hid (w.heap.size ≤ Ke) := hid (by rw [hK]; exact HB.out.size)
  have NEde : Hid (Kd ≠ Ke) := hid (by have := D_d.out.lt; omega)
  have NEed : Hid (Ke ≠ Kd) := hid (by have := D_d.out.lt; omega)
  replace D_d := hid (D_d.out.below b D_d.out.lt)
  replace I_d := hid (I_d.out.call b)
  replace HB := hid (Bl.call HB.out b)
  have D_e := D_e'
  have I_e := I_e'
  have HW6 := hid hw
  have HK6 := hid hK
  clear b hw hK D_e' I_e' I_3
  have c_d : (w5.alloc (.cells #[.pointer v3] 27)).cell? ⟨Kd, 0, none⟩ = some (.pointer v1) := by rw [← HW6.out]; exact D_d.out.cell 0
  have f_d : (w5.alloc (.cells #[.pointer v3] 27)).frozen? ⟨Kd, 0, none⟩ = false := by rw [← HW6.out]; exact D_d.out.frozen 0
  have c_e : (w5.alloc (.cells #[.pointer v3] 27)).cell? ⟨Ke, 0, none⟩ = some (.pointer v3) := by rw [← HW6.out]; exact D_e.out.cell 0
  have f_e : (w5.alloc (.cells #[.pointer v3] 27)).frozen? ⟨Ke, 0, none⟩ = false := by rw [← HW6.out]; exact D_e.out.frozen 0
  go_wp2_with fail
  rw [← HK6.out, ← HW6.out]
  clear c_d f_d c_e f_e
  refine (delete_is (k := 3) I_e.out (by decide) dawake3 true rfl (by decide)).mono ?_; rintro e w7 ⟨v4, rfl, i, b⟩
  replace D_d := hid (D_d.out.below b D_d.out.lt)
  replace I_d := hid (I_d.out.call b)
  replace D_e := hid (D_e.out.below b D_e.out.lt)
  replace I_e := hid (I_e.out.call b)
  replace HB := hid (Bl.call HB.out b)
  clear b
  have I_4 := hid i
  clear i
  obtain ⟨w8, hw⟩ : ∃ w8, w8 = w7.alloc (.cells #[.pointer v4] 27) := ⟨_, rfl⟩
  obtain ⟨Kf, hK⟩ : ∃ Kf, Kf = w7.heap.size := ⟨_, rfl⟩
  have b : Below w7.heap.size w7 w8 := by rw [hw]; exact bel_new _ _
  have D_f' : Hid (Blk w8 Kf 27 [.pointer v4]) := hid (by rw [hw, hK]; exact Blk.new w7 _ [.pointer v4])
  have I_f' := hid (I_4.out.call b)
  have LO_f : Hid (w.heap.size ≤ Kf) := hid (by rw [hK]; exact HB.out.size)
  have NEdf : Hid (Kd ≠ Kf) := hid (by have := D_d.out.lt; omega)
  have NEfd : Hid (Kf ≠ Kd) := hid (by have := D_d.out.lt; omega)
  have NEef : Hid (Ke ≠ Kf) := hid (by have := D_e.out.lt; omega)
  have NEfe : Hid (Kf ≠ Ke) := hid (by have := D_e.out.lt; omega)
  replace D_d := hid (D_d.out.below b D_d.out.lt)
  replace I_d := hid (I_d.out.call b)
  replace D_e := hid (D_e.out.below b D_e.out.lt)
  replace I_e := hid (I_e.out.call b)
  replace HB := hid (Bl.call HB.out b)
  have D_f := D_f'
  have I_f := I_f'
  have HW8 := hid hw
  have HK8 := hid hK
  clear b hw hK D_f' I_f' I_4
  have c_d : (w7.alloc (.cells #[.pointer v4] 27)).cell? ⟨Kd, 0, none⟩ = some (.pointer v1) := by rw [← HW8.out]; exact D_d.out.cell 0
  have f_d : (w7.alloc (.cells #[.pointer v4] 27)).frozen? ⟨Kd, 0, none⟩ = false := by rw [← HW8.out]; exact D_d.out.frozen 0
  have c_e : (w7.alloc (.cells #[.pointer v4] 27)).cell? ⟨Ke, 0, none⟩ = some (.pointer v3) := by rw [← HW8.out]; exact D_e.out.cell 0
  have f_e : (w7.alloc (.cells #[.pointer v4] 27)).frozen? ⟨Ke, 0, none⟩ = false := by rw [← HW8.out]; exact D_e.out.frozen 0
  have c_f : (w7.alloc (.cells #[.pointer v4] 27)).cell? ⟨Kf, 0, none⟩ = some (.pointer v4) := by rw [← HW8.out]; exact D_f.out.cell 0
  have f_f : (w7.alloc (.cells #[.pointer v4] 27)).frozen? ⟨Kf, 0, none⟩ = false := by rw [← HW8.out]; exact D_f.out.frozen 0
  go_wp2_with fail
  rw [← HK8.out, ← HW8.out]
  clear c_d f_d c_e f_e c_f f_f
  refine (get_is (k := 5) I_e.out (by decide) 51 true (by decide) (by decide)).mono ?_; rintro e w9 ⟨rfl, b⟩
  replace D_d := hid (D_d.out.below b D_d.out.lt)
  replace I_d := hid (I_d.out.call b)
  replace D_e := hid (D_e.out.below b D_e.out.lt)
  replace I_e := hid (I_e.out.call b)
  replace D_f := hid (D_f.out.below b D_f.out.lt)
  replace I_f := hid (I_f.out.call b)
  replace HB := hid (Bl.call HB.out b)
  clear b
  have c_d : w9.cell? ⟨Kd, 0, none⟩ = some (.pointer v1) := D_d.out.cell 0
  have f_d : w9.frozen? ⟨Kd, 0, none⟩ = false := D_d.out.frozen 0
  have c_e : w9.cell? ⟨Ke, 0, none⟩ = some (.pointer v3) := D_e.out.cell 0
  have f_e : w9.frozen? ⟨Ke, 0, none⟩ = false := D_e.out.frozen 0
  have c_f : w9.cell? ⟨Kf, 0, none⟩ = some (.pointer v4) := D_f.out.cell 0
  have f_f : w9.frozen? ⟨Kf, 0, none⟩ = false := D_f.out.frozen 0
  go_wp2_with fail
  clear c_d f_d c_e f_e c_f f_f
  refine (delete_is (k := 3) I_f.out (by decide) dawake3 false (by decide) (by decide)).mono ?_; rintro e w10 ⟨v5, rfl, i, b⟩
  replace D_d := hid (D_d.out.below b D_d.out.lt)
  replace I_d := hid (I_d.out.call b)
  replace D_e := hid (D_e.out.below b D_e.out.lt)
  replace I_e := hid (I_e.out.call b)
  replace D_f := hid (D_f.out.below b D_f.out.lt)
  replace I_f := hid (I_f.out.call b)
  replace HB := hid (Bl.call HB.out b)
  clear b
  have I_5 := hid i
  clear i
  obtain ⟨w11, hw⟩ : ∃ w11, w11 = w10.alloc (.cells #[.pointer v5] 27) := ⟨_, rfl⟩
  obtain ⟨Kg, hK⟩ : ∃ Kg, Kg = w10.heap.size := ⟨_, rfl⟩
  have b : Below w10.heap.size w10 w11 := by rw [hw]; exact bel_new _ _
  have D_g' : Hid (Blk w11 Kg 27 [.pointer v5]) := hid (by rw [hw, hK]; exact Blk.new w10 _ [.pointer v5])
  have I_g' := hid (I_5.out.call b)
  have LO_g : Hid (w.heap.size ≤ Kg) := hid (by rw [hK]; exact HB.out.size)
  have NEdg : Hid (Kd ≠ Kg) := hid (by have := D_d.out.lt; omega)
  have NEgd : Hid (Kg ≠ Kd) := hid (by have := D_d.out.lt; omega)
  have NEeg : Hid (Ke ≠ Kg) := hid (by have := D_e.out.lt; omega)
  have NEge : Hid (Kg ≠ Ke) := hid (by have := D_e.out.lt; omega)
  have NEfg : Hid (Kf ≠ Kg) := hid (by have := D_f.out.lt; omega)
  have NEgf : Hid (Kg ≠ Kf) := hid (by have := D_f.out.lt; omega)
  replace D_d := hid (D_d.out.below b D_d.out.lt)
  replace I_d := hid (I_d.out.call b)
  replace D_e := hid (D_e.out.below b D_e.out.lt)
  replace I_e := hid (I_e.out.call b)
  replace D_f := hid (D_f.out.below b D_f.out.lt)
  replace I_f := hid (I_f.out.call b)
  replace HB := hid (Bl.call HB.out b)
  have D_g := D_g'
  have I_g := I_g'
  have HW11 := hid hw
  have HK11 := hid hK
  clear b hw hK D_g' I_g' I_5
  have c_d : (w10.alloc (.cells #[.pointer v5] 27)).cell? ⟨Kd, 0, none⟩ = some (.pointer v1) := by rw [← HW11.out]; exact D_d.out.cell 0
  have f_d : (w10.alloc (.cells #[.pointer v5] 27)).frozen? ⟨Kd, 0, none⟩ = false := by rw [← HW11.out]; exact D_d.out.frozen 0
  have c_e : (w10.alloc (.cells #[.pointer v5] 27)).cell? ⟨Ke, 0, none⟩ = some (.pointer v3) := by rw [← HW11.out]; exact D_e.out.cell 0
  have f_e : (w10.alloc (.cells #[.pointer v5] 27)).frozen? ⟨Ke, 0, none⟩ = false := by rw [← HW11.out]; exact D_e.out.frozen 0
  have c_f : (w10.alloc (.cells #[.pointer v5] 27)).cell? ⟨Kf, 0, none⟩ = some (.pointer v4) := by rw [← HW11.out]; exact D_f.out.cell 0
  have f_f : (w10.alloc (.cells #[.pointer v5] 27)).frozen? ⟨Kf, 0, none⟩ = false := by rw [← HW11.out]; exact D_f.out.frozen 0
  have c_g : (w10.alloc (.cells #[.pointer v5] 27)).cell? ⟨Kg, 0, none⟩ = some (.pointer v5) := by rw [← HW11.out]; exact D_g.out.cell 0
  have f_g : (w10.alloc (.cells #[.pointer v5] 27)).frozen? ⟨Kg, 0, none⟩ = false := by rw [← HW11.out]; exact D_g.out.frozen 0
  go_wp2_with fail
  rw [← HK11.out, ← HW11.out]
  clear c_d f_d c_e f_e c_f f_f c_g f_g
  refine (pairs_is I_e.out (by decide) [(3, 30), (5, 51)] 2 (by decide) rfl).mono ?_; rintro e w12 ⟨v6, rfl, s6, b⟩
  replace D_d := hid (D_d.out.below b D_d.out.lt)
  replace I_d := hid (I_d.out.call b)
  replace D_e := hid (D_e.out.below b D_e.out.lt)
  replace I_e := hid (I_e.out.call b)
  replace D_f := hid (D_f.out.below b D_f.out.lt)
  replace I_f := hid (I_f.out.call b)
  replace D_g := hid (D_g.out.below b D_g.out.lt)
  replace I_g := hid (I_g.out.call b)
  replace HB := hid (Bl.call HB.out b)
  clear b
  obtain ⟨k6, o6, cp6, rfl, q0, q1⟩ := two_cells s6
  clear s6
  have c_d : w12.cell? ⟨Kd, 0, none⟩ = some (.pointer v1) := D_d.out.cell 0
  have f_d : w12.frozen? ⟨Kd, 0, none⟩ = false := D_d.out.frozen 0
  have c_e : w12.cell? ⟨Ke, 0, none⟩ = some (.pointer v3) := D_e.out.cell 0
  have f_e : w12.frozen? ⟨Ke, 0, none⟩ = false := D_e.out.frozen 0
  have c_f : w12.cell? ⟨Kf, 0, none⟩ = some (.pointer v4) := D_f.out.cell 0
  have f_f : w12.frozen? ⟨Kf, 0, none⟩ = false := D_f.out.frozen 0
  have c_g : w12.cell? ⟨Kg, 0, none⟩ = some (.pointer v5) := D_g.out.cell 0
  have f_g : w12.frozen? ⟨Kg, 0, none⟩ = false := D_g.out.frozen 0
  go_wp2_with fail
  clear c_d f_d c_e f_e c_f f_f c_g f_g
  refine (many_is I_d.out 1 (by decide)).mono ?_; rintro e w13 ⟨rfl, b⟩
  replace D_d := hid (D_d.out.below b D_d.out.lt)
  replace I_d := hid (I_d.out.call b)
  replace D_e := hid (D_e.out.below b D_e.out.lt)
  replace I_e := hid (I_e.out.call b)
  replace D_f := hid (D_f.out.below b D_f.out.lt)
  replace I_f := hid (I_f.out.call b)
  replace D_g := hid (D_g.out.below b D_g.out.lt)
  replace I_g := hid (I_g.out.call b)
  replace HB := hid (Bl.call HB.out b)
  clear b
  clear q0 q1
  have c_d : w13.cell? ⟨Kd, 0, none⟩ = some (.pointer v1) := D_d.out.cell 0
  have f_d : w13.frozen? ⟨Kd, 0, none⟩ = false := D_d.out.frozen 0
  have c_e : w13.cell? ⟨Ke, 0, none⟩ = some (.pointer v3) := D_e.out.cell 0
  have f_e : w13.frozen? ⟨Ke, 0, none⟩ = false := D_e.out.frozen 0
  have c_f : w13.cell? ⟨Kf, 0, none⟩ = some (.pointer v4) := D_f.out.cell 0
  have f_f : w13.frozen? ⟨Kf, 0, none⟩ = false := D_f.out.frozen 0
  have c_g : w13.cell? ⟨Kg, 0, none⟩ = some (.pointer v5) := D_g.out.cell 0
  have f_g : w13.frozen? ⟨Kg, 0, none⟩ = false := D_g.out.frozen 0
  go_wp2_with fail
  clear c_d f_d c_e f_e c_f f_f c_g f_g
  refine (from_is (z := 1) I_e.out (by decide) (by decide)).mono ?_; rintro e w14 ⟨rfl, b⟩
  replace D_d := hid (D_d.out.below b D_d.out.lt)
  replace I_d := hid (I_d.out.call b)
  replace D_e := hid (D_e.out.below b D_e.out.lt)
  replace I_e := hid (I_e.out.call b)
  replace D_f := hid (D_f.out.below b D_f.out.lt)
  replace I_f := hid (I_f.out.call b)
  replace D_g := hid (D_g.out.below b D_g.out.lt)
  replace I_g := hid (I_g.out.call b)
  replace HB := hid (Bl.call HB.out b)
  clear b
  have c_d : w14.cell? ⟨Kd, 0, none⟩ = some (.pointer v1) := D_d.out.cell 0
  have f_d : w14.frozen? ⟨Kd, 0, none⟩ = false := D_d.out.frozen 0
  have c_e : w14.cell? ⟨Ke, 0, none⟩ = some (.pointer v3) := D_e.out.cell 0
  have f_e : w14.frozen? ⟨Ke, 0, none⟩ = false := D_e.out.frozen 0
  have c_f : w14.cell? ⟨Kf, 0, none⟩ = some (.pointer v4) := D_f.out.cell 0
  have f_f : w14.frozen? ⟨Kf, 0, none⟩ = false := D_f.out.frozen 0
  have c_g : w14.cell? ⟨Kg, 0, none⟩ = some (.pointer v5) := D_g.out.cell 0
  have f_g : w14.frozen? ⟨Kg, 0, none⟩ = false := D_g.out.frozen 0
  go_wp2_with fail
  clear c_d f_d c_e f_e c_f f_f c_g f_g
  refine (dheight_two I_e.out (by decide)).mono ?_; rintro e w15 ⟨rfl, b⟩
  replace D_d := hid (D_d.out.below b D_d.out.lt)
  replace I_d := hid (I_d.out.call b)
  replace D_e := hid (D_e.out.below b D_e.out.lt)
  replace I_e := hid (I_e.out.call b)
  replace D_f := hid (D_f.out.below b D_f.out.lt)
  replace I_f := hid (I_f.out.call b)
  replace D_g := hid (D_g.out.below b D_g.out.lt)
  replace I_g := hid (I_g.out.call b)
  replace HB := hid (Bl.call HB.out b)
  clear b
  go_wp2
  go_ret
  exact ⟨rfl, HB.out⟩
end Go.Proofs.Ytkkhghipbnpiaaa
