/- Contracts of verts.Add, verts.Remove. -/
import Derived.Test.YtcbedngimgkcoaaVerF
namespace Go.Proofs.Ytcbedngimgkcoaa
open Go.RowKit
set_option linter.unusedVariables false
set_option linter.unusedSimpArgs false

theorem sls_set (l : List (Bool × Int)) (j : Nat) (u : Bool) (k : Int) : ((sls l).set (j * 2) (.bool u)).set (j * 2 + 1) (.int .u64 k) = sls (l.set j (u, k)) := by
  induction l generalizing j with
  | nil => simp [sls]
  | cons e l ih =>
    cases j with
    | zero => simp [sls]
    | succ j =>
      have := ih j
      simp only [sls, List.flatMap_cons, List.set_cons_succ] at this ⊢
      rw [← this, show (j + 1) * 2 = (j * 2) + 2 by omega]
      rfl
/-- The store of a slot. -/
theorem own_slot {w : World} {base g n c : Nat} {l : List (Bool × Int)} (h : w.ownsRow base 55 2 (.slice (some ⟨g, 0, none⟩) n c) n (sls l)) (j : Nat) (u : Bool) (k : Int) :
    ((w.setCell ⟨g, j * 2, none⟩ (.bool u)).setCell ⟨g, j * 2 + 1, none⟩ (.int .u64 k)).ownsRow base 55 2 (.slice (some ⟨g, 0, none⟩) n c) n (sls (l.set j (u, k))) := by
  have := ((h.stored (j * 2) (.bool u)).1.stored (j * 2 + 1) (.int .u64 k)).1
  rwa [sls_set] at this
theorem own_cells {w : World} {base g n c : Nat} {l : List (Bool × Int)} (h : w.ownsRow base 55 2 (.slice (some ⟨g, 0, none⟩) n c) n (sls l)) {j : Nat} (hj : j < l.length) :
    w.cell? ⟨g, j * 2, none⟩ = some (.bool l[j].1) ∧ w.cell? ⟨g, j * 2 + 1, none⟩ = some (.int .u64 l[j].2) ∧ w.frozen? ⟨g, j * 2, none⟩ = false ∧ w.frozen? ⟨g, j * 2 + 1, none⟩ = false := by
  have hn : l.length = n := by have := h.1; rw [len_sls] at this; omega
  have e := sls_at l j hj
  exact ⟨by rw [h.cellAt (j * 2) (by omega)]; exact e.1, by rw [h.cellAt (j * 2 + 1) (by omega)]; exact e.2, h.frozenAt _, h.frozenAt _⟩
def AddPost (w : World) (n : Nat) (l : List (Bool × Int)) (z1 z2 : Int) (e : Ending) (w' : World) : Prop := ∃ v, e = .returned (.tuple #[v, .int .i64 z1, .int .i64 z2]) ∧ Sl w' w'.heap.size 2 v n (sls l) ∧ Below w.heap.size w w'
theorem vadd_bad {v : Value} {n : Nat} {l : List (Bool × Int)} {k : Int} {w : World} (hl : Sl w w.heap.size 2 v n (sls l)) (h : ¬ Vt.Ok l) :
    Calls Try.prog 12 #[v, .int .u64 k] w (AddPost w n l 0 1) := by
  have HL := hid hl
  have HK := hid (kd_bad h)
  clear hl h
  go_enter Try.func12, Try.ntmps12
  go_wp2_with fail
  refine (keyed_any HL.out).mono ?_; rintro e w1 ⟨pt, rfl, i1, b1⟩
  rw [HK.out]
  have BB := hid (Bl.new b1 (.cells #[.pointer pt] 60))
  clear i1 b1
  go_wp2
  exact bodyPost_ret (v := .tuple #[v, .int .i64 0, .int .i64 1]) (by simp [results, Try.results12, go_sem]) rfl ⟨v, rfl, HL.out.call BB.out, BB.out⟩
theorem vadd_there {v : Value} {n : Nat} {l : List (Bool × Int)} {k : Int} {w : World} (hl : Sl w w.heap.size 2 v n (sls l)) (h : Vt.Ok l) (hk : (Vt.fn l k).isSome = true) :
    Calls Try.prog 12 #[v, .int .u64 k] w (AddPost w n l 0 4) := by
  have HL := hid hl
  have HLen := hid (kd_len (l := l))
  obtain ⟨d, h1, h2⟩ := kd_ok h
  have hg := Vt.get_fn h2 h.2.2 k
  have HS : Hid ((Dc.get d k).isSome = true) := hid (by rw [hg]; simpa using hk)
  have HK := hid h1
  clear hl h hk h1 h2 hg
  go_enter Try.func12, Try.ntmps12
  go_wp2_with fail
  refine (keyed_any HL.out).mono ?_; rintro e w1 ⟨pt, rfl, i1, b1⟩
  rw [HK.out]
  have BB2 := hid (Bl.new b1 (.cells #[.pointer pt] 60))
  have I2 : Hid (IsD (w1.alloc (.cells #[.pointer pt] 60)) pt d) := hid (by rw [HK.out] at i1; exact i1.new _)
  have HLd : Hid (d.length ≤ 100000) := hid (by have := HLen.out; rw [HK.out] at this; exact this)
  clear i1 b1
  go_wp2_with fail
  refine (get_any (k := k) I2.out HLd.out).mono ?_; rintro e w2 ⟨rfl, b2⟩
  rw [HS.out]
  have BB3 := hid (Bl.call BB2.out b2)
  clear b2
  go_wp2
  exact bodyPost_ret (v := .tuple #[v, .int .i64 0, .int .i64 4]) (by simp [results, Try.results12, go_sem]) rfl ⟨v, rfl, HL.out.call BB3.out, BB3.out⟩
theorem vadd_full {v : Value} {n : Nat} {l : List (Bool × Int)} {k : Int} {w : World} (hl : Sl w w.heap.size 2 v n (sls l)) (h : Vt.Ok l) (hk : Vt.fn l k = none) (hf : Vt.ff l = none) :
    Calls Try.prog 12 #[v, .int .u64 k] w (AddPost w n l 0 10) := by
  have HL := hid hl
  have HLen := hid (kd_len (l := l))
  obtain ⟨d, h1, h2⟩ := kd_ok h
  have hg := Vt.get_fn h2 h.2.2 k
  have HS : Hid ((Dc.get d k).isSome = false) := hid (by rw [hg, hk]; rfl)
  have HK := hid h1
  have HZ : Hid (ffZ l = -1) := hid (by unfold ffZ; rw [hf])
  clear hl h hk h1 h2 hg hf
  go_enter Try.func12, Try.ntmps12
  go_wp2_with fail
  refine (keyed_any HL.out).mono ?_; rintro e w1 ⟨pt, rfl, i1, b1⟩
  rw [HK.out]
  have BB2 := hid (Bl.new b1 (.cells #[.pointer pt] 60))
  have I2 : Hid (IsD (w1.alloc (.cells #[.pointer pt] 60)) pt d) := hid (by rw [HK.out] at i1; exact i1.new _)
  have HLd : Hid (d.length ≤ 100000) := hid (by have := HLen.out; rw [HK.out] at this; exact this)
  clear i1 b1
  go_wp2_with fail
  refine (get_any (k := k) I2.out HLd.out).mono ?_; rintro e w2 ⟨rfl, b2⟩
  rw [HS.out]
  have BB3 := hid (Bl.call BB2.out b2)
  have HL3 := hid (HL.out.call BB3.out)
  clear b2
  go_wp2_with fail
  refine (vindex_is HL3.out _ HZ.out).mono ?_; rintro e w3 ⟨rfl, b3⟩
  have BB4 := hid (Bl.call BB3.out b3)
  clear b3
  go_wp2
  exact bodyPost_ret (v := .tuple #[v, .int .i64 0, .int .i64 10]) (by simp [results, Try.results12, go_sem]) rfl ⟨v, rfl, HL.out.call BB4.out, BB4.out⟩
theorem vadd_ok {v : Value} {n : Nat} {l : List (Bool × Int)} {k : Int} {j : Nat} {w : World} (hl : Sl w w.heap.size 2 v n (sls l)) (h : Vt.Ok l) (hk : Vt.fn l k = none) (hf : Vt.ff l = some j) :
    Calls Try.prog 12 #[v, .int .u64 k] w (AddPost w n (l.set j (true, k)) (j : Int) 0) := by
  have hll : l.length = n := by have := hl.len; rw [len_sls] at this; omega
  have HL := hid hl
  have HLen := hid (kd_len (l := l))
  obtain ⟨d, h1, h2⟩ := kd_ok h
  have hg := Vt.get_fn h2 h.2.2 k
  have HS : Hid ((Dc.get d k).isSome = false) := hid (by rw [hg, hk]; rfl)
  have HK := hid h1
  have HZ : Hid (ffZ l = (j : Int)) := hid (by unfold ffZ; rw [hf])
  obtain ⟨hjl, -⟩ := Vt.ff_some hf
  have hn2 : n ≤ 1024 := by have := h.2.1; omega
  have hjn : (j : Int) < (n : Int) := by omega
  have HJ := hid hjl
  clear hl h hk h1 h2 hg hf hll hjl
  go_enter Try.func12, Try.ntmps12
  go_wp2_with fail
  refine (keyed_any HL.out).mono ?_; rintro e w1 ⟨pt, rfl, i1, b1⟩
  rw [HK.out]
  have BB2 := hid (Bl.new b1 (.cells #[.pointer pt] 60))
  have I2 : Hid (IsD (w1.alloc (.cells #[.pointer pt] 60)) pt d) := hid (by rw [HK.out] at i1; exact i1.new _)
  have HLd : Hid (d.length ≤ 100000) := hid (by have := HLen.out; rw [HK.out] at this; exact this)
  clear i1 b1
  go_wp2_with fail
  refine (get_any (k := k) I2.out HLd.out).mono ?_; rintro e w2 ⟨rfl, b2⟩
  rw [HS.out]
  have BB3 := hid (Bl.call BB2.out b2)
  have HL3 := hid (HL.out.call BB3.out)
  clear b2
  go_wp2_with fail
  refine (vindex_is HL3.out _ HZ.out).mono ?_; rintro e w3 ⟨rfl, b3⟩
  have BB4 := hid (Bl.call BB3.out b3)
  have HL4 := hid (HL.out.call BB4.out)
  clear b3
  go_wp2_with fail
  refine (vclone_any _ n _ l _ HL4.out (Nat.le_refl _) (by omega)).mono ?_; rintro e w4 ⟨v4, rfl, o4, b4⟩
  obtain ⟨g, cap, rfl, hg1, hg2⟩ := own_form o4 (by omega)
  obtain ⟨c0, c1, f0, f1⟩ := own_cells o4 HJ.out
  have O5 := hid (own_slot o4 j true k)
  have B5 : Hid (Below w3.heap.size w3 ((w4.setCell ⟨g, j * 2, none⟩ (.bool true)).setCell ⟨g, j * 2 + 1, none⟩ (.int .u64 k))) := hid ((b4.setCell (p := ⟨g, j * 2, none⟩) hg1 _).setCell (p := ⟨g, j * 2 + 1, none⟩) hg1 _)
  have B6 := hid (Bl.call BB4.out B5.out)
  clear o4 b4 hg1 hg2
  go_wp2
  exact bodyPost_ret (v := .tuple #[.slice (some ⟨g, 0, none⟩) n cap, .int .i64 (j : Int), .int .i64 0]) (by simp [results, Try.results12, go_sem]) rfl ⟨_, rfl, Sl.of_own O5.out, B6.out⟩
theorem vadd_is {v : Value} {n : Nat} {l : List (Bool × Int)} {k : Int} {w : World} (hl : Sl w w.heap.size 2 v n (sls l)) (m : List (Bool × Int)) (z1 z2 : Int) (h : Vt.add l k = (m, z1.toNat, z2.toNat)) (h1 : 0 ≤ z1) (h2 : 0 ≤ z2) :
    Calls Try.prog 12 #[v, .int .u64 k] w (AddPost w n m z1 z2) := by
  obtain ⟨a, rfl⟩ := Int.eq_ofNat_of_zero_le h1
  obtain ⟨b, rfl⟩ := Int.eq_ofNat_of_zero_le h2
  simp only [Int.toNat_natCast] at h
  rcases Vt.add_cases l k with ⟨c1, e⟩ | ⟨c1, ⟨j, c2⟩, e⟩ | ⟨c1, c2, c3, e⟩ | ⟨c1, c2, j, c3, e⟩ <;> (rw [e] at h; cases h)
  · exact vadd_bad hl c1
  · exact vadd_there hl c1 (by rw [c2]; rfl)
  · exact vadd_full hl c1 c2 c3
  · exact vadd_ok hl c1 c2 c3
def RemPost (w : World) (n : Nat) (l : List (Bool × Int)) (z2 : Int) (e : Ending) (w' : World) : Prop := ∃ v, e = .returned (.tuple #[v, .int .i64 z2]) ∧ Sl w' w'.heap.size 2 v n (sls l) ∧ Below w.heap.size w w'
theorem vrem_bad {v : Value} {n : Nat} {l : List (Bool × Int)} {k : Int} {w : World} (hl : Sl w w.heap.size 2 v n (sls l)) (h : ¬ Vt.Ok l) :
    Calls Try.prog 14 #[v, .int .u64 k] w (RemPost w n l 1) := by
  have HL := hid hl
  have HK := hid (kd_bad h)
  clear hl h
  go_enter Try.func14, Try.ntmps14
  go_wp2_with fail
  refine (keyed_any HL.out).mono ?_; rintro e w1 ⟨pt, rfl, i1, b1⟩
  rw [HK.out]
  have BB := hid (Bl.new b1 (.cells #[.pointer pt] 60))
  clear i1 b1
  go_wp2
  exact bodyPost_ret (v := .tuple #[v, .int .i64 1]) (by simp [results, Try.results14, go_sem]) rfl ⟨v, rfl, HL.out.call BB.out, BB.out⟩
theorem vrem_none {v : Value} {n : Nat} {l : List (Bool × Int)} {k : Int} {w : World} (hl : Sl w w.heap.size 2 v n (sls l)) (h : Vt.Ok l) (hk : Vt.fn l k = none) :
    Calls Try.prog 14 #[v, .int .u64 k] w (RemPost w n l 7) := by
  have HL := hid hl
  have HLen := hid (kd_len (l := l))
  obtain ⟨d, h1, h2⟩ := kd_ok h
  have hg := Vt.get_fn h2 h.2.2 k
  have HS : Hid ((Dc.get d k).isSome = false) := hid (by rw [hg, hk]; rfl)
  have HK := hid h1
  clear hl h hk h1 h2 hg
  go_enter Try.func14, Try.ntmps14
  go_wp2_with fail
  refine (keyed_any HL.out).mono ?_; rintro e w1 ⟨pt, rfl, i1, b1⟩
  rw [HK.out]
  have BB2 := hid (Bl.new b1 (.cells #[.pointer pt] 60))
  have I2 : Hid (IsD (w1.alloc (.cells #[.pointer pt] 60)) pt d) := hid (by rw [HK.out] at i1; exact i1.new _)
  have HLd : Hid (d.length ≤ 100000) := hid (by have := HLen.out; rw [HK.out] at this; exact this)
  clear i1 b1
  go_wp2_with fail
  refine (get_any (k := k) I2.out HLd.out).mono ?_; rintro e w2 ⟨rfl, b2⟩
  rw [HS.out]
  have BB3 := hid (Bl.call BB2.out b2)
  clear b2
  go_wp2
  exact bodyPost_ret (v := .tuple #[v, .int .i64 7]) (by simp [results, Try.results14, go_sem]) rfl ⟨v, rfl, HL.out.call BB3.out, BB3.out⟩
theorem vrem_ok {v : Value} {n : Nat} {l : List (Bool × Int)} {k : Int} {j : Nat} {w : World} (hl : Sl w w.heap.size 2 v n (sls l)) (h : Vt.Ok l) (hf : Vt.fn l k = some j) :
    Calls Try.prog 14 #[v, .int .u64 k] w (RemPost w n (l.set j (false, 0)) 0) := by
  have hll : l.length = n := by have := hl.len; rw [len_sls] at this; omega
  have HL := hid hl
  have HLen := hid (kd_len (l := l))
  obtain ⟨d, h1, h2⟩ := kd_ok h
  have hg := Vt.get_fn h2 h.2.2 k
  have HS : Hid ((Dc.get d k).isSome = true ∧ (Dc.get d k).getD 0 = (j : Int)) := hid (by rw [hg, hf]; exact ⟨rfl, rfl⟩)
  have HK := hid h1
  have hjl : j < l.length := (List.getElem?_eq_some_iff.1 (Vt.fn_some hf)).1
  have hn2 : n ≤ 1024 := by have := h.2.1; omega
  have hjn : (j : Int) < (n : Int) := by omega
  have HJ := hid hjl
  clear hl h h1 h2 hg hf hll hjl
  go_enter Try.func14, Try.ntmps14
  go_wp2_with fail
  refine (keyed_any HL.out).mono ?_; rintro e w1 ⟨pt, rfl, i1, b1⟩
  rw [HK.out]
  have BB2 := hid (Bl.new b1 (.cells #[.pointer pt] 60))
  have I2 : Hid (IsD (w1.alloc (.cells #[.pointer pt] 60)) pt d) := hid (by rw [HK.out] at i1; exact i1.new _)
  have HLd : Hid (d.length ≤ 100000) := hid (by have := HLen.out; rw [HK.out] at this; exact this)
  clear i1 b1
  go_wp2_with fail
  refine (get_any (k := k) I2.out HLd.out).mono ?_; rintro e w2 ⟨rfl, b2⟩
  rw [HS.out.1, HS.out.2]
  have BB3 := hid (Bl.call BB2.out b2)
  have HL3 := hid (HL.out.call BB3.out)
  clear b2
  go_wp2_with fail
  refine (vclone_any _ n _ l _ HL3.out (Nat.le_refl _) (by omega)).mono ?_; rintro e w4 ⟨v4, rfl, o4, b4⟩
  obtain ⟨g, cap, rfl, hg1, hg2⟩ := own_form o4 (by omega)
  obtain ⟨c0, c1, f0, f1⟩ := own_cells o4 HJ.out
  have O5 := hid (own_slot o4 j false 0)
  have B5 : Hid (Below w2.heap.size w2 ((w4.setCell ⟨g, j * 2, none⟩ (.bool false)).setCell ⟨g, j * 2 + 1, none⟩ (.int .u64 0))) := hid ((b4.setCell (p := ⟨g, j * 2, none⟩) hg1 _).setCell (p := ⟨g, j * 2 + 1, none⟩) hg1 _)
  have B6 := hid (Bl.call BB3.out B5.out)
  clear o4 b4 hg1 hg2
  go_wp2
  exact bodyPost_ret (v := .tuple #[.slice (some ⟨g, 0, none⟩) n cap, .int .i64 0]) (by simp [results, Try.results14, go_sem]) rfl ⟨_, rfl, Sl.of_own O5.out, B6.out⟩
theorem vrem_is {v : Value} {n : Nat} {l : List (Bool × Int)} {k : Int} {w : World} (hl : Sl w w.heap.size 2 v n (sls l)) (m : List (Bool × Int)) (z2 : Int) (h : Vt.rem l k = (m, z2.toNat)) (h2 : 0 ≤ z2) :
    Calls Try.prog 14 #[v, .int .u64 k] w (RemPost w n m z2) := by
  obtain ⟨b, rfl⟩ := Int.eq_ofNat_of_zero_le h2
  simp only [Int.toNat_natCast] at h
  rcases Vt.rem_cases l k with ⟨c1, e⟩ | ⟨c1, c2, e⟩ | ⟨c1, j, c2, e⟩ <;> (rw [e] at h; cases h)
  · exact vrem_bad hl c1
  · exact vrem_none hl c1 c2
  · exact vrem_ok hl c1 c2
end Go.Proofs.Ytcbedngimgkcoaa
