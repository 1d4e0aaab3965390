/- Words; contracts of sketch.sized, New, Right, slices.Clone, raftsmanref05.Same. -/
import Derived.Test.YtomgbhnalhddiaaLevA
import Derived.Test.YtomgbhnalhddiaaSketchB
import Derived.IntWalk
namespace Go.Proofs.Ytomgbhnalhddiaa
open Go.RowKit
set_option linter.unusedVariables false
set_option linter.unusedSimpArgs false

/-- The cells of words. -/
def us (l : List Nat) : List Value := l.map fun x : Nat => .int .u64 (x : Int)
theorem len_us (l : List Nat) : (us l).length = l.length := by simp [us]
theorem us_at (l : List Nat) (k : Nat) (h : k < l.length) : (us l)[k]? = some (.int .u64 (l.getD k 0 : Nat)) := by simp [us, h, List.getD]
theorem us_set (l : List Nat) (i x : Nat) : (us l).set i (.int .u64 (x : Int)) = us (l.set i x) := by simp [us, List.map_set]
theorem us_app (p q : List Nat) : us p ++ us q = us (p ++ q) := by simp [us]
theorem us_one (l : List Nat) : ∀ u ∈ us l, u.oneCell' = true := by
  intro u hu
  obtain ⟨_, _, rfl⟩ := List.mem_map.1 hu
  rfl
theorem us_cell {w : World} {b o : Nat} {l : List Nat} (h : ∀ j u, (us l)[j]? = some u → w.cell? ⟨b, o + j, none⟩ = some u) {k : Nat} (hk : k < l.length) : w.cell? ⟨b, o + k, none⟩ = some (.int .u64 (l.getD k 0 : Nat)) :=
  h k _ (us_at l k hk)
/-- The cells of hashes. -/
def hcs (l : List (Nat × Nat)) : List Value := l.flatMap fun h => [.int .u64 (h.1 : Int), .int .u64 (h.2 : Int)]
theorem len_hcs (l : List (Nat × Nat)) : (hcs l).length = l.length * 2 := by
  induction l with
  | nil => rfl
  | cons e l ih => simp [hcs] at ih ⊢; omega
theorem hcs_at (l : List (Nat × Nat)) (k : Nat) (h : k < l.length) : (hcs l)[k * 2]? = some (.int .u64 (l[k].1 : Int)) ∧ (hcs l)[k * 2 + 1]? = some (.int .u64 (l[k].2 : Int)) := by
  induction l generalizing k with
  | nil => simp at h
  | cons e l ih =>
    cases k with
    | zero => simp [hcs]
    | succ k =>
      have := ih k (by simpa using h)
      simp only [hcs, List.flatMap_cons, List.getElem_cons_succ] at this ⊢
      refine ⟨?_, ?_⟩
      · rw [show (k + 1) * 2 = k * 2 + 2 by omega, List.getElem?_append_right (by simp)]; simpa using this.1
      · rw [show (k + 1) * 2 + 1 = k * 2 + 1 + 2 by omega, List.getElem?_append_right (by simp)]; simpa using this.2
theorem hcs_cell {w : World} {b o : Nat} {l : List (Nat × Nat)} (h : ∀ j u, (hcs l)[j]? = some u → w.cell? ⟨b, o + j, none⟩ = some u) {k : Nat} (hk : k < l.length) :
    w.cell? ⟨b, o + k * 2, none⟩ = some (.int .u64 (l[k].1 : Int)) ∧ w.cell? ⟨b, o + k * 2 + 1, none⟩ = some (.int .u64 (l[k].2 : Int)) := by
  have e := hcs_at l k hk
  exact ⟨h _ _ e.1, by rw [Nat.add_assoc]; exact h _ _ e.2⟩

theorem Tus : SlT 23 31 (.int .u64 0) 1 8 := SlT.mk Try.underlying23 (by kernel_rfl) rfl (by decide) (by decide)
theorem run_make_us (n : Nat) (h : n ≤ 1000000) (w : World) :
    (Instr.makeSlice 23 (.int .i64 (n : Int)) (.int .i64 (n : Int))).run Try.prog w = .ok (.slice (some ⟨w.heap.size, 0, none⟩) n n) (w.alloc (.cells (us (List.replicate n 0)).toArray 31)) := by
  obtain ⟨hu, ⟨i, hi, hz, hsz, hby⟩, hzs, h0, h0b⟩ := Tus
  have hr := run_make (P := Try.prog) w 23 31 i (.int .u64 0) hu hi hz .i64 .i64 n n (by omega) (by omega) (by rw [hby]; omega) (by omega)
  rw [hr, hsz]
  have e : madeCells (Value.int IntKind.u64 0).cells ((n : Int).toNat * 1) = (us (List.replicate n 0)).toArray := by
    have := toList_madeCells_one (.int .u64 0) n
    simp only [Int.toNat_natCast, Nat.mul_one, us, List.map_replicate]
    show madeCells #[Value.int IntKind.u64 0] n = (List.replicate n (Value.int IntKind.u64 0)).toArray
    rw [← this]
  rw [e]
  simp

theorem uclone_any (v : Value) (n B : Nat) (p : List Nat) (w : World) (hs : Sl w B 1 v n (us p)) (hB : B ≤ w.heap.size) (hr : n ≤ 1000000) :
    Calls Try.prog 19 #[v] w fun e w' => ∃ v', e = .returned v' ∧ w'.ownsRow w.heap.size 31 1 v' n (us p) ∧ Below w.heap.size w w' := by
  have hs0 := hid hs
  obtain ⟨A, c, rfl, hnc, hcm, hl, hx⟩ := hs
  have heq := fun w => Lib.run_eql_slice_nil (P := Try.prog) w 23 31 A n c 0 0 Try.underlying23
  cases A with
  | none =>
    have hn : n = 0 := by
      rcases Nat.eq_zero_or_pos n with h | h
      · exact h
      · obtain ⟨_, _, h', _⟩ := hx h; cases h'
    subst hn
    have hp : p = [] := List.eq_nil_of_length_eq_zero (by simpa [len_us] using hl)
    subst hp
    go_enter Try.func19, Try.ntmps19
    go_wp2
    go_ret
    exact ⟨_, rfl, World.ownsRow_nil _ _ _ _, Below.refl _ _⟩
  | some ad =>
    clear hx
    go_enter Try.func19, Try.ntmps19
    go_wp2_with (at_builtin; refine wl_app rfl _ _ Tus rfl rfl (own_empty w _ _ _ (Nat.le_refl _)) rfl (hs0.out.alloc hB _) (us_one _) (by omega) (by simp) ?_)
    intro v' w' hown hbel
    go_wp2
    go_ret
    exact ⟨_, rfl, hown, ((Below.refl _ _).alloc (Nat.le_refl _) _).trans hbel⟩

def usameB (p q : List Nat) : Bool := p == q
theorem usame_any (v v' : Value) (n n' B B' : Nat) (p q : List Nat) (w : World) (hs : Sl w B 1 v n (us p)) (hs' : Sl w B' 1 v' n' (us q)) :
    Calls Try.prog 13 #[v, v'] w fun e w' => e = .returned (.bool (usameB p q)) ∧ Qt w w' := by
  obtain ⟨A, c, rfl, hnc, hcm, hl, hx⟩ := hs
  have hn : p.length = n := by rw [len_us] at hl; omega
  subst hn
  have hm : p.length ≤ 9223372036854775807 := by unfold maxLen at hcm; omega
  obtain ⟨A', c', rfl, hnc', hcm', hl', hx'⟩ := hs'
  have hn : q.length = n' := by rw [len_us] at hl'; omega
  subst hn
  have hm' : q.length ≤ 9223372036854775807 := by unfold maxLen at hcm'; omega
  clear hl hcm hl' hcm'
  have HX := hid hx
  have HX' := hid hx'
  clear hx hx'
  by_cases hlen : p.length = q.length
  · have e0 : ((p.length : Int) != (q.length : Int)) = false := by simp [hlen]
    have HL := hid hlen
    have hlen' : p.length ≤ q.length := by omega
    clear hlen
    go_enter Try.func13, Try.ntmps13
    go_wp2
    go_loopw [5] (fun i wr => ∃ k : Nat, k ≤ p.length ∧ i = .int .i64 k ∧ Hid (∀ j, j < k → p.getD j 0 = q.getD j 0) ∧ Qt w wr) (fun i _ => p.length - (intOf i).toNat)
    case atStart => exact ⟨0, Nat.zero_le _, rfl, fun j hj => by omega, Qt.refl _⟩
    case round =>
      obtain ⟨k, hk, rfl, hall, hq⟩ := hrel
      by_cases hlt : k < p.length
      · obtain ⟨b, o, rfl, hb, hc⟩ := HX.out (by omega)
        obtain ⟨b', o', rfl, hb', hc'⟩ := HX'.out (by omega)
        have c1 := (hq.cell ⟨b, o + k, none⟩).trans (us_cell hc hlt)
        have c2 := (hq.cell ⟨b', o' + k, none⟩).trans (us_cell hc' (by omega))
        obtain ⟨x, hgx⟩ : ∃ x, x = p.getD k 0 := ⟨_, rfl⟩
        obtain ⟨y, hgy⟩ : ∃ y, y = q.getD k 0 := ⟨_, rfl⟩
        rw [← hgx] at c1
        rw [← hgy] at c2
        have HG := hid (And.intro hgx hgy)
        have i1 : (k : Int) < p.length := by omega
        have i2 : (k : Int) < q.length := by omega
        clear hc hc' hgx hgy
        by_cases he : x = y
        · have e1 : ((x : Int) != (y : Int)) = false := by simp [he]
          have HE := hid he
          clear he
          go_wp2_with fail
          go_quiet (fail)
          go_wp2
          go_roundw
          case rel =>
            refine ⟨k + 1, by omega, by go_num, hid fun j hj => ?_, hq.drewN _⟩
            by_cases hjk : j = k
            · subst hjk; rw [← HG.out.1, ← HG.out.2, HE.out]
            · exact hall.out j (by omega)
          case measure => simp [intOf]; omega
        · have e1 : ((x : Int) != (y : Int)) = true := by simp; omega
          have HE := hid he
          clear he
          go_wp2_with fail
          go_quiet (fail)
          go_wp2
          go_ret
          refine ⟨ret_bool ?_, hq.drewN _⟩
          unfold usameB
          symm
          rw [beq_eq_false_iff_ne]
          intro h
          have := HG.out
          rw [h] at this
          exact HE.out (this.1.trans this.2.symm)
      · have hkn : k = p.length := by omega
        subst hkn
        go_wp2
        go_ret
        refine ⟨ret_bool ?_, hq⟩
        unfold usameB
        symm
        rw [beq_iff_eq]
        refine List.ext_getElem HL.out fun i h1 h2 => ?_
        have := hall.out i h1
        simpa [List.getD, h1, h2] using this
  · have e0 : ((p.length : Int) != (q.length : Int)) = true := by simp; omega
    have HL := hid hlen
    clear hlen
    go_enter Try.func13, Try.ntmps13
    go_wp2
    go_ret
    refine ⟨ret_bool ?_, Qt.refl _⟩
    unfold usameB
    symm
    rw [beq_eq_false_iff_ne]
    intro h
    exact HL.out (by rw [h])
theorem usame_is {v v' : Value} {n n' B B' : Nat} {p q : List Nat} {w : World} (b : Bool) (h : usameB p q = b) (hs : Sl w B 1 v n (us p)) (hs' : Sl w B' 1 v' n' (us q)) :
    Calls Try.prog 13 #[v, v'] w fun e w' => e = .returned (.bool b) ∧ Qt w w' := by
  rw [← h]; exact usame_any v v' n n' B B' p q w hs hs'

/-! ## sized, New, Right -/
def SzOk (r v : Int) : Prop := 1 ≤ r ∧ r ≤ 8 ∧ 1 ≤ v ∧ v ≤ 61
theorem sized_yes {r v : Int} (h : SzOk r v) (w : World) : Calls Try.prog 17 #[.int .i64 r, .int .i64 v] w fun e w' => e = .returned (.bool true) ∧ w = w' := by
  obtain ⟨h1, h2, h3, h4⟩ := h
  go_enter Try.func17, Try.ntmps17
  go_wp2
  go_ret
  exact ⟨ret_bool (by first | (simp; done) | (simp; omega)), rfl⟩
theorem sized_no {r v : Int} (h : ¬ SzOk r v) (w : World) : Calls Try.prog 17 #[.int .i64 r, .int .i64 v] w fun e w' => e = .returned (.bool false) ∧ w = w' := by
  unfold SzOk at h
  by_cases h1 : 1 ≤ r
  · by_cases h2 : r ≤ 8
    · by_cases h3 : 1 ≤ v
      · have h4 : ¬ v ≤ 61 := by omega
        clear h
        go_enter Try.func17, Try.ntmps17
        go_wp2
        go_ret
        exact ⟨ret_bool (by first | (simp; done) | (simp; omega)), rfl⟩
      · clear h
        go_enter Try.func17, Try.ntmps17
        go_wp2
        go_ret
        exact ⟨ret_bool (by first | (simp; done) | (simp; omega)), rfl⟩
    · clear h
      go_enter Try.func17, Try.ntmps17
      go_wp2
      go_ret
      exact ⟨ret_bool (by first | (simp; done) | (simp; omega)), rfl⟩
  · clear h
    go_enter Try.func17, Try.ntmps17
    go_wp2
    go_ret
    exact ⟨ret_bool (by first | (simp; done) | (simp; omega)), rfl⟩

def NwPost (r v : Int) (N : Nat) (w : World) (e : Ending) (w' : World) : Prop := ∃ v', e = .returned (.tuple #[.agg #[.int .i64 r, .int .i64 v, v'], .int .i64 0]) ∧ Sl w' w'.heap.size 1 v' N (us (List.replicate N 0)) ∧ Below w.heap.size w w'
theorem snew_ok {r v : Int} {N : Nat} (h : SzOk r v) (hN : r * v = (N : Int)) (hN2 : N ≤ 488) (w : World) : Calls Try.prog 7 #[.int .i64 r, .int .i64 v] w (NwPost r v N w) := by
  have H := hid h
  have hmk := fun w => run_make_us N (by omega) w
  obtain ⟨h1, h2, h3, h4⟩ := h
  go_enter Try.func7, Try.ntmps7
  go_wp2_with fail
  refine (sized_yes H.out _).mono ?_; rintro e w' ⟨rfl, rfl⟩
  go_wp2
  have hsl : Sl ((w.alloc (.cells #[.int .i64 r, .int .i64 v, .slice (some ⟨w.heap.size + 1, 0, none⟩) N N] 26)).alloc (.cells (us (List.replicate N 0)).toArray 31)) ((w.alloc (.cells #[.int .i64 r, .int .i64 v, .slice (some ⟨w.heap.size + 1, 0, none⟩) N N] 26)).alloc (.cells (us (List.replicate N 0)).toArray 31)).heap.size 1 (.slice (some ⟨w.heap.size + 1, 0, none⟩) N N) N (us (List.replicate N 0)) := by
    have hb := Blk.new (w.alloc (.cells #[.int .i64 r, .int .i64 v, .slice (some ⟨w.heap.size + 1, 0, none⟩) N N] 26)) 31 (us (List.replicate N 0))
    have := hb.sl (B := ((w.alloc (.cells #[.int .i64 r, .int .i64 v, .slice (some ⟨w.heap.size + 1, 0, none⟩) N N] 26)).alloc (.cells (us (List.replicate N 0)).toArray 31)).heap.size) (sz := 1) (n := N) (c := N) (by simp) (Nat.le_refl _) (by unfold maxLen; omega) (by rw [len_us]; simp)
    simpa using this
  exact bodyPost_ret (v := .tuple #[.agg #[.int .i64 r, .int .i64 v, .slice (some ⟨w.heap.size + 1, 0, none⟩) N N], .int .i64 0]) (by simp [results, Try.results7, go_sem]) rfl ⟨_, rfl, hsl, Bl.new (bel_new _ _) _⟩
theorem snew_no {r v : Int} (h : ¬ SzOk r v) (w : World) : Calls Try.prog 7 #[.int .i64 r, .int .i64 v] w fun e w' => e = .returned (.tuple #[.agg #[.int .i64 0, .int .i64 0, .slice none 0 0], .int .i64 1]) ∧ Below w.heap.size w w' := by
  have H := hid h
  clear h
  go_enter Try.func7, Try.ntmps7
  go_wp2_with fail
  have hb := bel_new w (.cells #[.int .i64 0, .int .i64 0, .slice none 0 0] 26)
  refine (sized_no H.out _).mono ?_; rintro e w' ⟨rfl, rfl⟩
  go_wp2
  exact bodyPost_ret (v := .tuple #[.agg #[.int .i64 0, .int .i64 0, .slice none 0 0], .int .i64 1]) (by simp [results, Try.results7, go_sem]) rfl ⟨rfl, by first | exact hb | exact (hb.setCell (Nat.le_refl _) _) | exact ((hb.setCell (p := ⟨w.heap.size, 0, none⟩) (Nat.le_refl _) _).setCell (p := ⟨w.heap.size, 1, none⟩) (Nat.le_refl _) _).setCell (p := ⟨w.heap.size, 2, none⟩) (Nat.le_refl _) _⟩

/-- Is it a sketch? -/
def SOk (r v : Int) (n : Nat) : Prop := SzOk r v ∧ (n : Int) = r * v
theorem sright_yes {r v : Int} {A : Option Addr} {n c : Nat} (h : SOk r v n) (w : World) : Calls Try.prog 18 #[.agg #[.int .i64 r, .int .i64 v, .slice A n c]] w fun e w' => e = .returned (.bool true) ∧ Below w.heap.size w w' := by
  have H := hid h
  obtain ⟨⟨h1, h2, h3, h4⟩, h5⟩ := h
  have h6 : r * v = (n : Int) := h5.symm
  have h7 : (n : Int) ≤ 488 := by
    rw [h5]
    have : r * v ≤ 8 * 61 := Int.mul_le_mul h2 h4 (by omega) (by omega)
    omega
  clear h5
  have hb := bel_new w (.cells #[.int .i64 r, .int .i64 v, .slice A n c] 26)
  have e0 := (Blk.new w 26 [.int .i64 r, .int .i64 v, .slice A n c]).cell 0
  have e1 := (Blk.new w 26 [.int .i64 r, .int .i64 v, .slice A n c]).cell 1
  have e2 := (Blk.new w 26 [.int .i64 r, .int .i64 v, .slice A n c]).cell 2
  have HB := hid hb
  clear hb
  go_enter Try.func18, Try.ntmps18
  go_wp2_with fail
  refine (sized_yes H.out.1 _).mono ?_; rintro e w' ⟨rfl, rfl⟩
  go_wp2
  go_ret
  exact ⟨ret_bool (by first | rfl | simp), HB.out⟩
theorem sright_no {r v : Int} {A : Option Addr} {n c : Nat} (h : ¬ SOk r v n) (w : World) : Calls Try.prog 18 #[.agg #[.int .i64 r, .int .i64 v, .slice A n c]] w fun e w' => e = .returned (.bool false) ∧ Below w.heap.size w w' := by
  have hb := bel_new w (.cells #[.int .i64 r, .int .i64 v, .slice A n c] 26)
  have e0 := (Blk.new w 26 [.int .i64 r, .int .i64 v, .slice A n c]).cell 0
  have e1 := (Blk.new w 26 [.int .i64 r, .int .i64 v, .slice A n c]).cell 1
  have e2 := (Blk.new w 26 [.int .i64 r, .int .i64 v, .slice A n c]).cell 2
  have HB := hid hb
  clear hb
  by_cases hz : SzOk r v
  · have H := hid hz
    obtain ⟨h1, h2, h3, h4⟩ := hz
    have hne : ¬ (n : Int) = r * v := fun e => h ⟨H.out, e⟩
    have h7 : r * v ≤ 488 := by
      have : r * v ≤ 8 * 61 := Int.mul_le_mul h2 h4 (by omega) (by omega)
      omega
    have h8 : 0 ≤ r * v := Int.mul_nonneg (by omega) (by omega)
    obtain ⟨rv, hrv⟩ : ∃ rv, r * v = rv := ⟨_, rfl⟩
    rw [hrv] at hne h7 h8
    have t0 : ((n : Int) == rv) = false := by simp [hne]
    clear h hne
    go_enter Try.func18, Try.ntmps18
    go_wp2_with fail
    refine (sized_yes H.out _).mono ?_; rintro e w' ⟨rfl, rfl⟩
    go_wp2
    go_ret
    exact ⟨ret_bool (by first | rfl | simp), HB.out⟩
  · have H := hid hz
    clear hz h
    go_enter Try.func18, Try.ntmps18
    go_wp2_with fail
    refine (sized_no H.out _).mono ?_; rintro e w' ⟨rfl, rfl⟩
    go_wp2
    go_ret
    exact ⟨ret_bool (by first | rfl | simp), HB.out⟩
end Go.Proofs.Ytomgbhnalhddiaa
