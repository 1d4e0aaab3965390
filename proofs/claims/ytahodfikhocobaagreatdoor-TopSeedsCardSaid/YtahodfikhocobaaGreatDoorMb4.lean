/- The texts LevA, SketchB, SkA, TopPlain, TopB, TopC, TopD, TopE, TopF, merged. No theorem here is a claim by itself. -/
import Derived.Test.YtahodfikhocobaaGreatDoorMb3
import Derived.Deep.RegionHeld3
import Derived.Deep.DrawnRows
import Derived.IntWalk
import Derived.Test.YtahodfikhocobaaGreatDoorMb1
namespace Go.Proofs.YtahodfikhocobaaGreatDoor
open Go.RowKit
set_option linter.unusedVariables false
attribute [local go_sem ↓] Go.wp_at_zero Go.wp_at_succ
theorem zc' {a b : Nat} (h : a = b) : Hid (((a : Nat) : Int) = ((b : Nat) : Int)) := hid (by rw [h])
def hashV (h : Nat × Nat) : Value := .agg #[.int .u64 (h.1 : Int), .int .u64 (h.2 : Int)]
def HSmall (h : Nat × Nat) : Prop := h.1 < 18446744073709551616 ∧ h.2 < 18446744073709551616
set_option maxRecDepth 100000 in
theorem value_z {x z : Int} {w : World} (h : Nat × Nat) (n : Nat) (hh : HSmall h) (hx : x = (n : Int)) (hn : n < 18446744073709551616) (hz : ((Sk.val h n : Nat) : Int) = z) :
  Calls Tryz.prog 100 #[hashV h, .int .u64 x] w fun e w' => e = .returned (.int .u64 z) ∧ Below w.heap.size w w' := by
 subst hx hz
 obtain ⟨A, B⟩ := h
 obtain ⟨h1, h2⟩ := hh
 have M : ∀ k, Calls Tryz.prog 125 #[.int .u64 (A : Int), .int .u64 (n : Int)] ((w.alloc (.cells #[.int .u64 (A : Int), .int .u64 (B : Int)] 42)).drewN k) fun e w'' => e = .returned (.int .u64 ((Md.mul A n : Nat) : Int)) ∧ ∃ m, w'' = (w.alloc (.cells #[.int .u64 (A : Int), .int .u64 (B : Int)] 42)).drewN m :=
  fun k => quiet_qt (modMul_z A n rfl rfl h1 hn rfl)
 have D : ∀ k, Calls Tryz.prog 124 #[.int .u64 ((Md.mul A n : Nat) : Int), .int .u64 (B : Int)] ((w.alloc (.cells #[.int .u64 (A : Int), .int .u64 (B : Int)] 42)).drewN k) fun e w'' => e = .returned (.int .u64 ((Sk.val (A, B) n : Nat) : Int)) ∧ ∃ m, w'' = (w.alloc (.cells #[.int .u64 (A : Int), .int .u64 (B : Int)] 42)).drewN m :=
  fun k => quiet_eq (modAdd_z (Md.mul A n) B rfl rfl (small_mul _ _) h2 rfl)
 have HM := hid M
 have HD := hid D
 have HB := hid (bel_new w (.cells #[.int .u64 (A : Int), .int .u64 (B : Int)] 42))
 clear M D
 unfold hashV
 go_enter Tryz.func100, Tryz.ntmps100
 go_wp2_with fail
 go_quiet (first | (go_at_call 125; with_reducible exact HM.out _) | (go_at_call 124; with_reducible exact HD.out _))
 go_wp2
 go_ret
 exact ⟨rfl, Bl.qt HB.out (qt_of _ _)⟩
theorem shr_bnd (j : Nat) : (2305843009213693951 : Int) / 2 ^ j = ((Sk.bnd j : Nat) : Int) := by
 unfold Sk.bnd; rw [Int.natCast_ediv, Int.natCast_pow]; rfl
theorem bound_in {x z : Int} {w : World} (j : Nat) (hx : x = (j : Int)) (hj : j ≤ 60) (hz : ((Sk.bnd j : Nat) : Int) = z) :
  Calls Tryz.prog 101 #[.int .i64 x] w fun e w' => e = .returned (.int .u64 z) ∧ w = w' := by
 subst hx hz
 have i0 : ¬ (j : Int) < 0 := by omega
 have i1 : ¬ (61 : Int) ≤ (j : Int) := by omega
 have HS := hid (shr_bnd j)
 go_enter Tryz.func101, Tryz.ntmps101
 go_wp2
 go_ret
 refine ⟨ret_int ?_, rfl⟩
 first | exact HS.out | (rw [← HS.out]; rfl) | (rw [← HS.out]; simp)
def DeepPost (x lim : Nat) (w : World) (e : Ending) (w' : World) : Prop := ∃ d : Nat, e = .returned (.int .i64 (d : Int)) ∧ Sk.IsDeep x lim d ∧ Below w.heap.size w w'
set_option maxRecDepth 100000 in
theorem deep_any {x : Int} {w : World} (h : Nat × Nat) (n lim : Nat) (hh : HSmall h) (hx : x = (n : Int)) (hn : n < 18446744073709551616) (hl : lim ≤ 61) :
  Calls Tryz.prog 79 #[hashV h, .int .u64 x, .int .i64 (lim : Int)] w (DeepPost (Sk.val h n) lim w) := by
 subst hx
 obtain ⟨v, hv⟩ : ∃ v, v = Sk.val h n := ⟨_, rfl⟩
 have EV := zc' hv.symm
 rw [← hv]
 have HB := hid (bel_new w (.cells #[.int .u64 (h.1 : Int), .int .u64 (h.2 : Int)] 42))
 have HV : ∀ w, Calls Tryz.prog 100 #[.agg #[.int .u64 (h.1 : Int), .int .u64 (h.2 : Int)], .int .u64 (n : Int)] w fun e w' => e = .returned (.int .u64 (v : Int)) ∧ Below w.heap.size w w' :=
  fun w => value_z h n hh rfl hn EV.out
 have HV' := hid HV
 clear HV hv EV hh
 unfold hashV
 obtain ⟨A, B⟩ := h
 dsimp only at *
 go_enter Tryz.func79, Tryz.ntmps79
 go_wp2_with fail
 refine (HV'.out _).mono ?_; rintro e w1 ⟨rfl, b1⟩
 have B1 := hid (Bl.call HB.out b1)
 clear b1
 go_wp2_with fail
 go_loop [8] (fun d5 => ∃ d : Nat, d5 = .int .i64 (d : Int) ∧ d ≤ lim ∧ Hid (∀ j, j < d → v < Sk.bnd j)) (fun d5 => lim - (intOf d5).toNat)
 case atStart => exact ⟨0, rfl, Nat.zero_le _, hid (fun j hj => absurd hj (Nat.not_lt_zero _))⟩
 case round =>
  obtain ⟨d, rfl, hd, hall⟩ := hrel
  by_cases hlt : d < lim
  ·
   have i0 : (d : Int) < (lim : Int) := by omega
   have i1 : (lim : Int) ≤ 61 := by omega
   by_cases hb : v < Sk.bnd d
   ·
    have i2 : (v : Int) < (Sk.bnd d : Int) := by omega
    have HN : Hid (∀ j, j < d + 1 → v < Sk.bnd j) := hid fun j hj => by
     rcases Nat.lt_or_ge j d with h | h
     · exact hall.out j h
     ·
      have : j = d := by omega
      rw [this]; exact hb
    clear hb hall
    go_wp2_with fail
    refine (bound_in d rfl (by omega) rfl).mono ?_; rintro e w' ⟨rfl, rfl⟩
    go_wp2_with fail
    go_round
    case rel => exact ⟨d + 1, by go_num, by omega, HN⟩
    case measure => simp [intOf]; omega
   ·
    have i2 : ¬ (v : Int) < (Sk.bnd d : Int) := by omega
    have HF : Hid (Sk.IsDeep v lim d) := hid (Sk.deep_of hd hall.out (fun _ => by omega))
    clear hb hall
    go_wp2_with fail
    refine (bound_in d rfl (by omega) rfl).mono ?_; rintro e w' ⟨rfl, rfl⟩
    go_wp2
    go_ret
    exact ⟨d, rfl, HF.out, B1.out⟩
  ·
   have hdl : d = lim := by omega
   have i0 : ¬ (d : Int) < (lim : Int) := by omega
   have i1 : (lim : Int) ≤ 61 := by omega
   have HF : Hid (Sk.IsDeep v lim d) := hid (Sk.deep_of hd hall.out (fun h => by omega))
   clear hall hdl
   go_wp2
   go_ret
   exact ⟨d, rfl, HF.out, B1.out⟩
end Go.Proofs.YtahodfikhocobaaGreatDoor
set_option linter.unusedVariables false
namespace Sk

def part (l : List (Nat × Nat)) (v n : Nat) (ws : List Nat) (r i : Nat) : List Nat :=
 ws.mapIdx fun t w => if t / v < r then tog1 (l.getD (t / v) (0, 0)) n (t % v) w else if t / v = r ∧ t % v < i then w ^^^ n else w
theorem len_part (l : List (Nat × Nat)) (v n : Nat) (ws : List Nat) (r i : Nat) : (part l v n ws r i).length = ws.length := by simp [part]
theorem part_start (l : List (Nat × Nat)) (v n : Nat) (ws : List Nat) : part l v n ws 0 0 = ws := by
 apply List.ext_getElem
 · simp [part]
 · intro t h1 h2; simp [part]
theorem part_set (l : List (Nat × Nat)) (v n : Nat) (ws : List Nat) (r i : Nat) (hi : i < v) : (part l v n ws r i).set (r * v + i) ((part l v n ws r i).getD (r * v + i) 0 ^^^ n) = part l v n ws r (i + 1) := by
 have hv : 0 < v := by omega
 have e1 : (r * v + i) / v = r := by rw [Nat.mul_comm, Nat.mul_add_div hv, Nat.div_eq_of_lt hi]; rfl
 have e2 : (r * v + i) % v = i := by rw [Nat.mul_comm, Nat.mul_add_mod, Nat.mod_eq_of_lt hi]
 apply List.ext_getElem
 · simp [part]
 ·
  intro t h1 h2
  have ht : t < ws.length := by simpa [part] using h2
  rw [List.getElem_set]
  by_cases h : r * v + i = t
  ·
   subst h
   simp [part, List.getD, ht, e1, e2]
  ·
   rw [if_neg h]
   simp only [part, List.getElem_mapIdx]
   by_cases hr : t / v < r
   · rw [if_pos hr, if_pos hr]
   ·
    rw [if_neg hr, if_neg hr]
    by_cases hr2 : t / v = r
    ·
     have hne : t % v ≠ i := fun hc => h (by rw [← hr2, ← hc, Nat.mul_comm]; exact Nat.div_add_mod t v)
     by_cases hlt : t % v < i
     · rw [if_pos ⟨hr2, hlt⟩, if_pos ⟨hr2, by omega⟩]
     · rw [if_neg (fun h => hlt h.2), if_neg (fun h => by omega)]
    · rw [if_neg (fun h => hr2 h.1), if_neg (fun h => hr2 h.1)]
theorem part_row (l : List (Nat × Nat)) (v n : Nat) (ws : List Nat) (r d : Nat) (hv : 0 < v) (hd : IsDeep (val (l.getD r (0, 0)) n) v d) : part l v n ws r d = part l v n ws (r + 1) 0 := by
 apply List.ext_getElem
 · simp [part]
 ·
  intro t h1 h2
  simp only [part, List.getElem_mapIdx]
  have hm : t % v < v := Nat.mod_lt _ hv
  by_cases hr : t / v < r
  · rw [if_pos hr, if_pos (by omega)]
  ·
   rw [if_neg hr]
   by_cases hr2 : t / v = r
   ·
    rw [if_pos (show t / v < r + 1 by omega), hr2]
    unfold tog1
    have := hd.2 (t % v) hm
    by_cases hlt : t % v < d
    · rw [if_pos ⟨rfl, hlt⟩, if_pos (this.1 hlt)]
    · rw [if_neg (fun h => hlt h.2), if_neg (fun h => hlt (this.2 h))]
   · rw [if_neg (fun h => hr2 h.1), if_neg (by omega), if_neg (fun h => by omega)]
theorem part_all (l : List (Nat × Nat)) (v n : Nat) (ws : List Nat) (hw : ws.length = l.length * v) : part l v n ws l.length 0 = tog l v n ws := by
 apply List.ext_getElem
 · simp [part, tog]
 ·
  intro t h1 h2
  have ht : t < ws.length := by simpa [part] using h1
  simp only [part, tog, List.getElem_mapIdx]
  have : t / v < l.length := Nat.div_lt_of_lt_mul (by rw [Nat.mul_comm]; omega)
  rw [if_pos this]
theorem small_part {l : List (Nat × Nat)} {v n : Nat} {ws : List Nat} (hn : n < 18446744073709551616) (h : Small ws) (r i : Nat) : Small (part l v n ws r i) := by
 intro x hx
 unfold part at hx
 obtain ⟨t, ht, rfl⟩ := List.mem_mapIdx.1 hx
 have hw := h _ (List.getElem_mem ht)
 unfold tog1
 split
 ·
  split
  · exact xor_lt _ _ hw hn
  · exact hw
 ·
  split
  · exact xor_lt _ _ hw hn
  · exact hw
theorem small_tog {l : List (Nat × Nat)} {v n : Nat} {ws : List Nat} (hn : n < 18446744073709551616) (h : Small ws) : Small (tog l v n ws) := by
 intro x hx
 unfold tog at hx
 obtain ⟨t, ht, rfl⟩ := List.mem_mapIdx.1 hx
 have hw := h _ (List.getElem_mem ht)
 unfold tog1
 split
 · exact xor_lt _ _ hw hn
 · exact hw
theorem small_togs {l : List (Nat × Nat)} {v : Nat} {ns ws : List Nat} (hn : Small ns) (h : Small ws) : Small (togs l v ns ws) := by
 unfold togs
 induction ns generalizing ws with
 | nil => exact h
 | cons n ns ih => exact ih (fun x hx => hn x (by simp [hx])) (small_tog (hn n (by simp)) h)
theorem small_rep (k : Nat) : Small (List.replicate k 0) := by
 intro x hx
 rw [(List.mem_replicate.1 hx).2]; omega
theorem small_getD {l : List Nat} (h : Small l) (k : Nat) : l.getD k 0 < 18446744073709551616 := by
 rw [List.getD_eq_getElem?_getD]
 cases hk : l[k]? with
 | none => simp
 | some x => exact h x (List.mem_of_getElem? hk)
def isE (n : Nat) : Bool := decide (n / 16777216 < n % 16777216)
def nms (l : List Nat) : List Nat := l.filter isE
theorem nms_step (l : List Nat) (k : Nat) (h : k < l.length) : nms (l.take (k + 1)) = nms (l.take k) ++ if isE l[k] then [l[k]] else [] := by
 unfold nms
 rw [List.take_succ_eq_append_getElem h, List.filter_append]
 cases hc : isE l[k] <;> simp [hc]
theorem nms_len (l : List Nat) : (nms l).length ≤ l.length := List.length_filter_le _ _
end Sk
namespace Go.Proofs.YtahodfikhocobaaGreatDoor
open Go.RowKit
set_option linter.unusedVariables false
set_option linter.unusedSimpArgs false
def us (l : List Nat) : List Value := l.map fun x : Nat => .int .u64 (x : Int)
theorem len_us (l : List Nat) : (us l).length = l.length := by simp [us]
theorem us_at (l : List Nat) (k : Nat) (h : k < l.length) : (us l)[k]? = some (.int .u64 (l.getD k 0 : Nat)) := by simp [us, h, List.getD]
theorem us_set (l : List Nat) (i x : Nat) : (us l).set i (.int .u64 (x : Int)) = us (l.set i x) := by simp [us, List.map_set]
theorem us_app (p q : List Nat) : us p ++ us q = us (p ++ q) := by simp [us]
theorem us_one (l : List Nat) : ∀ u ∈ us l, u.oneCell' = true := by
 intro u hu
 obtain ⟨_, _, rfl⟩ := List.mem_map.1 hu
 rfl
theorem us_cell {w : World} {b o : Nat} {l : List Nat} (h : ∀ j u, (us l)[j]? = some u → w.cell? ⟨b, o + j, none⟩ = some u) {k : Nat} (hk : k < l.length) : w.cell? ⟨b, o + k, none⟩ = some (.int .u64 (l.getD k 0 : Nat)) :=
 h k _ (us_at l k hk)
def hcs (l : List (Nat × Nat)) : List Value := l.flatMap fun h => [.int .u64 (h.1 : Int), .int .u64 (h.2 : Int)]
theorem len_hcs (l : List (Nat × Nat)) : (hcs l).length = l.length * 2 := by
 induction l with
 | nil => rfl
 | cons e l ih => simp [hcs] at ih ⊢; omega
theorem hcs_at (l : List (Nat × Nat)) (k : Nat) (h : k < l.length) : (hcs l)[k * 2]? = some (.int .u64 (l[k].1 : Int)) ∧ (hcs l)[k * 2 + 1]? = some (.int .u64 (l[k].2 : Int)) := by
 induction l generalizing k with
 | nil => simp at h
 | cons e l ih =>
  cases k with
  | zero => simp [hcs]
  | succ k =>
   have := ih k (by simpa using h)
   simp only [hcs, List.flatMap_cons, List.getElem_cons_succ] at this ⊢
   refine ⟨?_, ?_⟩
   · rw [show (k + 1) * 2 = k * 2 + 2 by omega, List.getElem?_append_right (by simp)]; simpa using this.1
   · rw [show (k + 1) * 2 + 1 = k * 2 + 1 + 2 by omega, List.getElem?_append_right (by simp)]; simpa using this.2
theorem hcs_cell {w : World} {b o : Nat} {l : List (Nat × Nat)} (h : ∀ j u, (hcs l)[j]? = some u → w.cell? ⟨b, o + j, none⟩ = some u) {k : Nat} (hk : k < l.length) :
  w.cell? ⟨b, o + k * 2, none⟩ = some (.int .u64 (l[k].1 : Int)) ∧ w.cell? ⟨b, o + k * 2 + 1, none⟩ = some (.int .u64 (l[k].2 : Int)) := by
 have e := hcs_at l k hk
 exact ⟨h _ _ e.1, by rw [Nat.add_assoc]; exact h _ _ e.2⟩
theorem Tus : SlT 44 40 (.int .u64 0) 1 8 := SlT.mk Tryz.underlying44 (by kernel_rfl) rfl (by decide) (by decide)
theorem run_make_us (n : Nat) (h : n ≤ 1000000) (w : World) :
  (Instr.makeSlice 44 (.int .i64 (n : Int)) (.int .i64 (n : Int))).run Tryz.prog w = .ok (.slice (some ⟨w.heap.size, 0, none⟩) n n) (w.alloc (.cells (us (List.replicate n 0)).toArray 40)) := by
 obtain ⟨hu, ⟨i, hi, hz, hsz, hby⟩, hzs, h0, h0b⟩ := Tus
 have hr := run_make (P := Tryz.prog) w 44 40 i (.int .u64 0) hu hi hz .i64 .i64 n n (by omega) (by omega) (by rw [hby]; omega) (by omega)
 rw [hr, hsz]
 have e : madeCells (Value.int IntKind.u64 0).cells ((n : Int).toNat * 1) = (us (List.replicate n 0)).toArray := by
  have := toList_madeCells_one (.int .u64 0) n
  simp only [Int.toNat_natCast, Nat.mul_one, us, List.map_replicate]
  show madeCells #[Value.int IntKind.u64 0] n = (List.replicate n (Value.int IntKind.u64 0)).toArray
  rw [← this]
 rw [e]
 simp
theorem uclone_any (v : Value) (n B : Nat) (p : List Nat) (w : World) (hs : Sl w B 1 v n (us p)) (hB : B ≤ w.heap.size) (hr : n ≤ 1000000) :
  Calls Tryz.prog 78 #[v] w fun e w' => ∃ v', e = .returned v' ∧ w'.ownsRow w.heap.size 40 1 v' n (us p) ∧ Below w.heap.size w w' := by
 have hs0 := hid hs
 obtain ⟨A, c, rfl, hnc, hcm, hl, hx⟩ := hs
 have heq := fun w => Lib.run_eql_slice_nil (P := Tryz.prog) w 44 40 A n c 0 0 Tryz.underlying44
 cases A with
 | none =>
  have hn : n = 0 := by
   rcases Nat.eq_zero_or_pos n with h | h
   · exact h
   · obtain ⟨_, _, h', _⟩ := hx h; cases h'
  subst hn
  have hp : p = [] := List.eq_nil_of_length_eq_zero (by simpa [len_us] using hl)
  subst hp
  go_enter Tryz.func78, Tryz.ntmps78
  go_wp2
  go_ret
  exact ⟨_, rfl, World.ownsRow_nil _ _ _ _, Below.refl _ _⟩
 | some ad =>
  clear hx
  go_enter Tryz.func78, Tryz.ntmps78
  go_wp2_with (at_builtin; refine wl_app rfl _ _ Tus rfl rfl (own_empty w _ _ _ (Nat.le_refl _)) rfl (hs0.out.alloc hB _) (us_one _) (by omega) (by simp) ?_)
  intro v' w' hown hbel
  go_wp2
  go_ret
  exact ⟨_, rfl, hown, ((Below.refl _ _).alloc (Nat.le_refl _) _).trans hbel⟩
/-! ## sized, New, Right -/
def SzOk (r v : Int) : Prop := 1 ≤ r ∧ r ≤ 8 ∧ 1 ≤ v ∧ v ≤ 61
theorem sized_yes {r v : Int} (h : SzOk r v) (w : World) : Calls Tryz.prog 75 #[.int .i64 r, .int .i64 v] w fun e w' => e = .returned (.bool true) ∧ w = w' := by
 obtain ⟨h1, h2, h3, h4⟩ := h
 go_enter Tryz.func75, Tryz.ntmps75
 go_wp2
 go_ret
 exact ⟨ret_bool (by first | (simp; done) | (simp; omega)), rfl⟩
def NwPost (r v : Int) (N : Nat) (w : World) (e : Ending) (w' : World) : Prop := ∃ v', e = .returned (.tuple #[.agg #[.int .i64 r, .int .i64 v, v'], .int .i64 0]) ∧ Sl w' w'.heap.size 1 v' N (us (List.replicate N 0)) ∧ Below w.heap.size w w'
theorem snew_ok {r v : Int} {N : Nat} (h : SzOk r v) (hN : r * v = (N : Int)) (hN2 : N ≤ 488) (w : World) : Calls Tryz.prog 49 #[.int .i64 r, .int .i64 v] w (NwPost r v N w) := by
 have H := hid h
 have hmk := fun w => run_make_us N (by omega) w
 obtain ⟨h1, h2, h3, h4⟩ := h
 go_enter Tryz.func49, Tryz.ntmps49
 go_wp2_with fail
 refine (sized_yes H.out _).mono ?_; rintro e w' ⟨rfl, rfl⟩
 go_wp2
 have hsl : Sl ((w.alloc (.cells #[.int .i64 r, .int .i64 v, .slice (some ⟨w.heap.size + 1, 0, none⟩) N N] 62)).alloc (.cells (us (List.replicate N 0)).toArray 40)) ((w.alloc (.cells #[.int .i64 r, .int .i64 v, .slice (some ⟨w.heap.size + 1, 0, none⟩) N N] 62)).alloc (.cells (us (List.replicate N 0)).toArray 40)).heap.size 1 (.slice (some ⟨w.heap.size + 1, 0, none⟩) N N) N (us (List.replicate N 0)) := by
  have hb := Blk.new (w.alloc (.cells #[.int .i64 r, .int .i64 v, .slice (some ⟨w.heap.size + 1, 0, none⟩) N N] 62)) 40 (us (List.replicate N 0))
  have := hb.sl (B := ((w.alloc (.cells #[.int .i64 r, .int .i64 v, .slice (some ⟨w.heap.size + 1, 0, none⟩) N N] 62)).alloc (.cells (us (List.replicate N 0)).toArray 40)).heap.size) (sz := 1) (n := N) (c := N) (by simp) (Nat.le_refl _) (by unfold maxLen; omega) (by rw [len_us]; simp)
  simpa using this
 exact bodyPost_ret (v := .tuple #[.agg #[.int .i64 r, .int .i64 v, .slice (some ⟨w.heap.size + 1, 0, none⟩) N N], .int .i64 0]) (by simp [results, Tryz.results49, go_sem]) rfl ⟨_, rfl, hsl, Bl.new (bel_new _ _) _⟩
def SOk (r v : Int) (n : Nat) : Prop := SzOk r v ∧ (n : Int) = r * v
theorem sright_yes {r v : Int} {A : Option Addr} {n c : Nat} (h : SOk r v n) (w : World) : Calls Tryz.prog 48 #[.agg #[.int .i64 r, .int .i64 v, .slice A n c]] w fun e w' => e = .returned (.bool true) ∧ Below w.heap.size w w' := by
 have H := hid h
 obtain ⟨⟨h1, h2, h3, h4⟩, h5⟩ := h
 have h6 : r * v = (n : Int) := h5.symm
 have h7 : (n : Int) ≤ 488 := by
  rw [h5]
  have : r * v ≤ 8 * 61 := Int.mul_le_mul h2 h4 (by omega) (by omega)
  omega
 clear h5
 have hb := bel_new w (.cells #[.int .i64 r, .int .i64 v, .slice A n c] 62)
 have e0 := (Blk.new w 62 [.int .i64 r, .int .i64 v, .slice A n c]).cell 0
 have e1 := (Blk.new w 62 [.int .i64 r, .int .i64 v, .slice A n c]).cell 1
 have e2 := (Blk.new w 62 [.int .i64 r, .int .i64 v, .slice A n c]).cell 2
 have HB := hid hb
 clear hb
 go_enter Tryz.func48, Tryz.ntmps48
 go_wp2_with fail
 refine (sized_yes H.out.1 _).mono ?_; rintro e w' ⟨rfl, rfl⟩
 go_wp2
 go_ret
 exact ⟨ret_bool (by first | rfl | simp), HB.out⟩
end Go.Proofs.YtahodfikhocobaaGreatDoor
namespace Tp
open Pt
set_option linter.unusedVariables false
def Cl (p : List Int) (x y : Int) : Prop := g p x = g p y
theorem g_join_u {p : List Int} {a b : Int} (ha : InR p.length a) : g (joinL p a b) a = min (g p a) (g p b) := by
 rw [g_join _ _ _ _ ha]
 split <;> omega
theorem join_far {p : List Int} {a b x : Int} (ha : InR p.length a) (hx : InR p.length x) (h : ¬ Cl (joinL p a b) x a) : g (joinL p a b) x = g p x ∧ ∀ y, InR p.length y → (Cl (joinL p a b) x y ↔ Cl p x y) := by
 unfold Cl at h ⊢
 rw [g_join_u ha, g_join _ _ _ _ hx] at h
 have h1 : g p x ≠ max (g p a) (g p b) := fun e => h (by rw [if_pos e])
 rw [if_neg h1] at h
 have h2 : g (joinL p a b) x = g p x := by rw [g_join _ _ _ _ hx, if_neg h1]
 refine ⟨h2, fun y hy => ?_⟩
 rw [h2, g_join _ _ _ _ hy]
 split
 ·
  rename_i e
  exact ⟨fun e2 => absurd e2 h, fun e2 => absurd (e2.trans e) h1⟩
 · exact Iff.rfl
def cls (p : List Int) (x : Int) : List Int := ((List.range p.length).filter fun i : Nat => decide (g p (i : Int) = g p x)).map Int.ofNat
theorem cls_far {p : List Int} {a b x : Int} (ha : InR p.length a) (hx : InR p.length x) (h : ¬ Cl (joinL p a b) x a) : cls (joinL p a b) x = cls p x := by
 obtain ⟨h1, h2⟩ := join_far ha hx h
 unfold cls
 rw [len_join]
 congr 1
 apply List.filter_congr
 intro i hi
 have := h2 (i : Int) ⟨by omega, by have := List.mem_range.1 hi; omega⟩
 unfold Cl at this
 rw [decide_eq_decide]
 constructor
 · intro e; exact (this.1 e.symm).symm
 · intro e; exact (this.2 e.symm).symm
section
variable {n : Nat} {P P' : Nat → List Int} {F : Nat → List Int → Prop} {u v : Int}
def Grow (n : Nat) (P : Nat → List Int) (s : Nat) (x : Int) : Prop := ∃ y, InR n y ∧ Cl (P (s + 1)) x y ∧ ¬ Cl (P s) x y
def Far (n : Nat) (P : Nat → List Int) (F : Nat → List Int → Prop) (u v : Int) (s : Nat) : Prop := ∀ x, InR n x → ¬ Cl (P s) x u → ¬ Cl (P s) x v → F s (cls (P s) x) → Grow n P s x
structure Raise (n : Nat) (P P' : Nat → List Int) (t : Nat) (a b : Int) : Prop where
  ha : InR n a
  hb : InR n b
  len : ∀ s, (P s).length = n
  lo : ∀ s, s ≤ t → P' s = P s
  hi : ∀ s, t < s → P' s = joinL (P s) a b
theorem Raise.cl {t : Nat} {a b : Int} (h : Raise n P P' t a b) {s : Nat} {x y : Int} (hx : InR n x) (hy : InR n y) (hc : Cl (P s) x y) : Cl (P' s) x y := by
 rcases Nat.lt_or_ge t s with h1 | h1
 ·
  rw [h.hi s h1]
  exact join_same (by rw [h.len]; exact hx) (by rw [h.len]; exact hy) hc
 · rw [h.lo s h1]; exact hc
theorem Raise.far {t : Nat} {a b w : Int} (h : Raise n P P' t a b) (hu : InR n u) (hv : InR n v) (hw : w = u ∨ w = v) (haw : ∀ s, t ≤ s → Cl (P s) a w) {s : Nat} (hf : Far n P F u v s) : Far n P' F u v s := by
 intro x hx h1 h2 h3
 have hwr : InR n w := by rcases hw with rfl | rfl <;> assumption
 have k1 : ¬ Cl (P s) x u := fun e => h1 (h.cl hx hu e)
 have k2 : ¬ Cl (P s) x v := fun e => h2 (h.cl hx hv e)
 have k3 : ¬ Cl (P' s) x w := by rcases hw with rfl | rfl <;> assumption
 have hs : cls (P' s) x = cls (P s) x ∧ ∀ y, InR n y → (Cl (P' s) x y ↔ Cl (P s) x y) := by
  rcases Nat.lt_or_ge t s with h4 | h4
  ·
   have k4 : ¬ Cl (P' s) x a := fun e => k3 (by
    have := h.cl h.ha hwr (haw s (by omega))
    unfold Cl at *
    rw [e, this])
   rw [h.hi s h4] at k4 ⊢
   have a' : InR (P s).length a := by rw [h.len]; exact h.ha
   have x' : InR (P s).length x := by rw [h.len]; exact hx
   exact ⟨cls_far a' x' k4, fun y hy => (join_far a' x' k4).2 y (by rw [h.len]; exact hy)⟩
  · rw [h.lo s h4]; exact ⟨rfl, fun _ _ => Iff.rfl⟩
 rw [hs.1] at h3
 obtain ⟨y, hy, c1, c2⟩ := hf x hx k1 k2 h3
 exact ⟨y, hy, h.cl hx hy c1, fun e => c2 ((hs.2 y hy).1 e)⟩
theorem Raise.near {t : Nat} {a b w : Int} (h : Raise n P P' t a b) (hw : InR n w) (haw : ∀ s, t ≤ s → Cl (P s) a w) (hb : ¬ Cl (P t) a b) : Grow n P' t w := by
 refine ⟨b, h.hb, ?_, ?_⟩
 ·
  have h1 := h.cl h.ha hw (haw (t + 1) (by omega))
  have h2 : Cl (P' (t + 1)) a b := by
   rw [h.hi (t + 1) (by omega)]
   exact join_made (by rw [h.len]; exact h.ha) (by rw [h.len]; exact h.hb)
  unfold Cl at *
  rw [← h1, h2]
 ·
  rw [h.lo t (Nat.le_refl _)]
  intro e
  have := haw t (Nat.le_refl _)
  unfold Cl at *
  exact hb (by rw [this, e])
theorem Raise.grow {t : Nat} {a b : Int} (h : Raise n P P' t a b) {s : Nat} (hs : s ≤ t) {x : Int} (hx : InR n x) (hg : Grow n P s x) : Grow n P' s x := by
 obtain ⟨y, hy, c1, c2⟩ := hg
 refine ⟨y, hy, h.cl hx hy c1, ?_⟩
 rw [h.lo s hs]; exact c2
theorem cls_eq {p : List Int} {x y : Int} (h : Cl p x y) : cls p x = cls p y := by
 unfold cls Cl at *
 rw [h]
def Stp (n : Nat) (F : Nat → List Int → Prop) (P P' : Nat → List Int) (t : Nat) (w : Int) : Prop :=
 ((∀ s, P' s = P s) ∧ (F t (cls (P t) w) → Grow n P t w)) ∨ ∃ a b, Raise n P P' t a b ∧ (∀ s, t ≤ s → Cl (P s) a w) ∧ ¬ Cl (P t) a b
theorem Grow.ext {x : Int} {s : Nat} (h : ∀ s, P' s = P s) (hg : Grow n P s x) : Grow n P' s x := by
 obtain ⟨y, hy, c1, c2⟩ := hg
 exact ⟨y, hy, by rw [h]; exact c1, by rw [h]; exact c2⟩
theorem Stp.lo {t : Nat} {w : Int} (h : Stp n F P P' t w) {s : Nat} (hs : s ≤ t) : P' s = P s := by
 rcases h with ⟨h, _⟩ | ⟨a, b, h, _, _⟩
 · exact h s
 · exact h.lo s hs
theorem Stp.far {t : Nat} {w : Int} (h : Stp n F P P' t w) (hu : InR n u) (hv : InR n v) (hw : w = u ∨ w = v) {s : Nat} (hf : Far n P F u v s) : Far n P' F u v s := by
 rcases h with ⟨h, _⟩ | ⟨a, b, h, haw, _⟩
 ·
  intro x hx h1 h2 h3
  rw [h s] at h1 h2 h3
  exact (hf x hx h1 h2 h3).ext h
 · exact h.far hu hv hw haw hf
theorem Stp.near {t : Nat} {w : Int} (h : Stp n F P P' t w) (hw : InR n w) (hF : F t (cls (P' t) w)) : Grow n P' t w := by
 rcases h with ⟨h, hg⟩ | ⟨a, b, h, haw, hab⟩
 ·
  rw [h t] at hF
  exact (hg hF).ext h
 · exact h.near hw haw hab
theorem Stp.grow {t : Nat} {w : Int} (h : Stp n F P P' t w) {s : Nat} (hs : s ≤ t) {x : Int} (hx : InR n x) (hg : Grow n P s x) : Grow n P' s x := by
 rcases h with ⟨h, _⟩ | ⟨a, b, h, _, _⟩
 · exact hg.ext h
 · exact h.grow hs hx hg
def Sofar (n : Nat) (F : Nat → List Int → Prop) (P : Nat → List Int) (u v : Int) (T : Nat) : Prop := (∀ s, Far n P F u v s) ∧ ∀ s, s < T → (F s (cls (P s) u) → Grow n P s u) ∧ (F s (cls (P s) v) → Grow n P s v)
theorem Sofar.step {Q : Nat → List Int} {t : Nat} (h : Sofar n F P u v t) (hu : InR n u) (hv : InR n v) (h1 : Stp n F P P' t u) (h2 : Stp n F P' Q t v) : Sofar n F Q u v (t + 1) := by
 refine ⟨fun s => h2.far hu hv (.inr rfl) (h1.far hu hv (.inl rfl) (h.1 s)), fun s hs => ?_⟩
 rcases Nat.lt_or_ge s t with h3 | h3
 ·
  have e : Q s = P s := by rw [h2.lo (by omega), h1.lo (by omega)]
  rw [e]
  obtain ⟨k1, k2⟩ := h.2 s h3
  exact ⟨fun hF => h2.grow (by omega) hu (h1.grow (by omega) hu (k1 hF)), fun hF => h2.grow (by omega) hv (h1.grow (by omega) hv (k2 hF))⟩
 ·
  obtain rfl : s = t := by omega
  refine ⟨fun hF => h2.grow (Nat.le_refl _) hu (h1.near hu ?_), fun hF => h2.near hv hF⟩
  rw [h2.lo (Nat.le_refl _)] at hF; exact hF
def Inv (n : Nat) (F : Nat → List Int → Prop) (P : Nat → List Int) (L : Nat) : Prop := ∀ s, s < L → ∀ x, InR n x → F s (cls (P s) x) → Grow n P s x
theorem Sofar.inv {L : Nat} (h : Sofar n F P u v L) (hu : InR n u) (hv : InR n v) (hc : ∀ s x y, InR n x → InR n y → Cl (P s) x y → Cl (P (s + 1)) x y) : Inv n F P L := by
 intro s hs x hx hF
 have key : ∀ w, InR n w → (F s (cls (P s) w) → Grow n P s w) → Cl (P s) x w → Grow n P s x := by
  intro w hw hg hxw
  rw [cls_eq hxw] at hF
  obtain ⟨y, hy, c1, c2⟩ := hg hF
  refine ⟨y, hy, ?_, fun e => c2 ?_⟩
  ·
   have := hc s x w hx hw hxw
   unfold Cl at *
   rw [this, c1]
  ·
   unfold Cl at *
   rw [← hxw, e]
 by_cases h1 : Cl (P s) x u
 · exact key u hu (h.2 s hs).1 h1
 ·
  by_cases h2 : Cl (P s) x v
  · exact key v hv (h.2 s hs).2 h2
  · exact h.1 s x hx h1 h2 hF
end
def fr (t : Int) (l : List Ed) : List Ed := l.filter fun e => decide (1 ≤ e.2.2) && decide (e.2.2 ≤ t)
theorem mem_uv_fr {t : Int} {l : List Ed} {x : Int × Int} : x ∈ uv (fr t l) ↔ ∃ j : Nat, ∃ e, l[j]? = some e ∧ (1 ≤ e.2.2 ∧ e.2.2 ≤ t) ∧ (e.1, e.2.1) = x := by
 unfold uv fr
 rw [List.mem_map]
 constructor
 ·
  rintro ⟨e, he, rfl⟩
  obtain ⟨h1, h2⟩ := List.mem_filter.1 he
  obtain ⟨j, hj⟩ := List.mem_iff_getElem?.1 h1
  exact ⟨j, e, hj, by simpa using h2, rfl⟩
 ·
  rintro ⟨j, e, hj, h, rfl⟩
  exact ⟨e, List.mem_filter.2 ⟨List.mem_of_getElem? hj, by simpa using h⟩, rfl⟩
theorem may_fr {n : Nat} {t : Int} {l : List Ed} (h : MayL n (uv l)) : MayL n (uv (fr t l)) := fun x hx => by
 obtain ⟨j, e, hj, _, rfl⟩ := mem_uv_fr.1 hx
 exact h _ (List.mem_map.2 ⟨e, List.mem_of_getElem? hj, rfl⟩)
theorem pa_set {n : Nat} {es : List Ed} (hm : MayL n (uv es)) {i : Nat} {e : Ed} (hi : es[i]? = some e) {t s : Int} (ht : 1 ≤ t) (hs : t ≤ s) :
  partOf n (uv (fr s (es.set i (e.1, e.2.1, t)))) = joinL (partOf n (uv (fr s es))) e.1 e.2.1 := by
 have hil : i < es.length := (List.getElem?_eq_some_iff.1 hi).1
 have hin := hm (e.1, e.2.1) (List.mem_map.2 ⟨e, List.mem_of_getElem? hi, rfl⟩)
 have h := partOf_snoc n (uv (fr s es)) (e.1, e.2.1)
 rw [← h]
 refine partOf_same (fun x hx => ?_) (fun x => ?_)
 ·
  rcases List.mem_append.1 hx with hx | hx
  · exact may_fr hm x hx
  · simp at hx; subst hx; exact hin
 ·
  rw [List.mem_append, mem_uv_fr, mem_uv_fr]
  constructor
  ·
   rintro (⟨j, d, hj, hd, rfl⟩ | hx)
   ·
    by_cases hji : i = j
    ·
     subst hji
     rw [hi] at hj; injection hj with hj; subst hj
     exact ⟨i, (e.1, e.2.1, t), by simp [hil], ⟨ht, hs⟩, rfl⟩
    · exact ⟨j, d, by rw [List.getElem?_set_ne hji]; exact hj, hd, rfl⟩
   ·
    simp at hx; subst hx
    exact ⟨i, (e.1, e.2.1, t), by simp [hil], ⟨ht, hs⟩, rfl⟩
  ·
   rintro ⟨j, d, hj, hd, rfl⟩
   by_cases hji : i = j
   ·
    subst hji
    simp [hil] at hj
    subst hj
    exact .inr (by simp)
   ·
    rw [List.getElem?_set_ne hji] at hj
    exact .inl ⟨j, d, hj, hd, rfl⟩
end Tp
namespace Tp
open Pt
set_option linter.unusedVariables false

/-! ## Tables -/
def Lt (a b : Ed) : Prop := a.1 < b.1 ∨ (a.1 = b.1 ∧ a.2.1 < b.2.1)
def EOk (n : Nat) (e : Ed) : Prop := 0 ≤ e.1 ∧ e.1 < e.2.1 ∧ e.2.1 < n ∧ 0 ≤ e.2.2 ∧ e.2.2 ≤ 16
def Tb (n : Nat) (es : List Ed) : Prop := (∀ e ∈ es, EOk n e) ∧ es.Pairwise Lt
section
variable {n : Nat} {es : List Ed}
theorem uv_mem {l : List Ed} {x : PE} : x ∈ uv l ↔ ∃ e ∈ l, (e.1, e.2.1) = x := by unfold uv; rw [List.mem_map]
theorem Tb.may (h : Tb n es) : MayL n (uv es) := by
 intro x hx
 obtain ⟨e, he, rfl⟩ := uv_mem.1 hx
 obtain ⟨h1, h2, h3, _⟩ := h.1 e he
 exact ⟨⟨h1, by show e.1 < n; omega⟩, ⟨by show 0 ≤ e.2.1; omega, h3⟩⟩
theorem Tb.inj (h : Tb n es) {i j : Nat} {e d : Ed} (hi : es[i]? = some e) (hj : es[j]? = some d) (h1 : e.1 = d.1) (h2 : e.2.1 = d.2.1) : i = j := by
 obtain ⟨hi1, rfl⟩ := List.getElem?_eq_some_iff.1 hi
 obtain ⟨hj1, rfl⟩ := List.getElem?_eq_some_iff.1 hj
 have hp := List.pairwise_iff_getElem.1 h.2
 rcases Nat.lt_trichotomy i j with hlt | rfl | hlt
 ·
  have := hp i j hi1 hj1 hlt
  unfold Lt at this; omega
 · rfl
 ·
  have := hp j i hj1 hi1 hlt
  unfold Lt at this; omega
theorem Tb.nodup (h : Tb n es) : (uv es).Nodup := by
 unfold uv
 rw [List.Nodup, List.pairwise_map]
 refine h.2.imp ?_
 rintro a b hab he
 injection he with h1 h2
 unfold Lt at hab; omega
theorem Tb.sub {l : List Ed} (h : Tb n es) (hs : l.Sublist es) : Tb n l := ⟨fun e he => h.1 e (hs.subset he), h.2.sublist hs⟩
theorem fr_sub (s : Int) (l : List Ed) : (fr s l).Sublist l := List.filter_sublist
theorem Tb.fr (h : Tb n es) (s : Int) : Tb n (fr s es) := h.sub (fr_sub s es)
theorem mem_fr {s : Int} {l : List Ed} {e : Ed} : e ∈ fr s l ↔ e ∈ l ∧ 1 ≤ e.2.2 ∧ e.2.2 ≤ s := by
 unfold Tp.fr; rw [List.mem_filter]; simp
theorem Tb.ends (h : Tb n es) {e d : Ed} (he : e ∈ es) (hd : d ∈ es) (h1 : e.1 = d.1) (h2 : e.2.1 = d.2.1) : e = d := by
 obtain ⟨i, hi⟩ := List.mem_iff_getElem?.1 he
 obtain ⟨j, hj⟩ := List.mem_iff_getElem?.1 hd
 obtain rfl := h.inj hi hj h1 h2
 rw [hi] at hj; injection hj
def fiB (u v : Int) (x : PE) : Bool := (x.1 == u && x.2 == v) || (x.1 == v && x.2 == u)
def fiP (l : List PE) (u v : Int) : Option Nat := l.findIdx? (fiB u v)
theorem fiP_some {l : List PE} {u v : Int} {i : Nat} (h : fiP l u v = some i) : ∃ x, l[i]? = some x ∧ fiB u v x = true := by
 obtain ⟨hi, h1, _⟩ := List.findIdx?_eq_some_iff_getElem.1 h
 exact ⟨l[i], List.getElem?_eq_getElem hi, h1⟩
theorem Tb.fi (h : Tb n es) {i : Nat} {e : Ed} (hi : es[i]? = some e) : fiP (uv es) e.1 e.2.1 = some i := by
 obtain ⟨hi1, rfl⟩ := List.getElem?_eq_some_iff.1 hi
 refine List.findIdx?_eq_some_iff_getElem.2 ⟨by simp [uv, hi1], by simp [fiB, uv], fun j hj => ?_⟩
 have hj1 : j < es.length := by omega
 simp only [uv, List.getElem_map]
 intro hf
 have k1 := h.1 _ (List.getElem_mem hi1)
 have k2 := h.1 _ (List.getElem_mem hj1)
 unfold EOk at k1 k2
 simp [fiB] at hf
 rcases hf with ⟨a, b⟩ | ⟨a, b⟩
 · have := h.inj (List.getElem?_eq_getElem hj1) hi a b; omega
 · omega
def setT (es : List Ed) (u v t : Int) : List Ed := match fiP (uv es) u v with
 | some i => es.modify i (fun e => (e.1, e.2.1, t))
 | none => es
theorem modify_set {α : Type} (l : List α) (f : α → α) {i : Nat} {a : α} (h : l[i]? = some a) : l.modify i f = l.set i (f a) := by
 apply List.ext_getElem?
 intro j
 rw [List.getElem?_modify]
 by_cases e : i = j
 ·
  subst e
  obtain ⟨hi, rfl⟩ := List.getElem?_eq_some_iff.1 h
  simp [hi]
 · rw [List.getElem?_set_ne e]; simp [e]
theorem Tb.setT (h : Tb n es) {i : Nat} {e : Ed} (hi : es[i]? = some e) (t : Int) : setT es e.1 e.2.1 t = es.set i (e.1, e.2.1, t) := by
 unfold Tp.setT
 rw [h.fi hi]
 exact modify_set es _ hi
theorem Tb.set (h : Tb n es) {i : Nat} {e : Ed} (hi : es[i]? = some e) {t : Int} (ht : 0 ≤ t ∧ t ≤ 16) : Tb n (es.set i (e.1, e.2.1, t)) := by
 obtain ⟨hi1, rfl⟩ := List.getElem?_eq_some_iff.1 hi
 constructor
 ·
  intro d hd
  rcases List.mem_or_eq_of_mem_set hd with hd | rfl
  · exact h.1 d hd
  ·
   have := h.1 _ (List.getElem_mem hi1)
   unfold EOk at *; simp; omega
 ·
  have : (es.set i (es[i].1, es[i].2.1, t)).map (fun e => (e.1, e.2.1)) = es.map (fun e => (e.1, e.2.1)) := by
   apply List.ext_getElem?
   intro j
   rw [List.getElem?_map, List.getElem?_map]
   by_cases e : i = j
   · subst e; simp [hi1]
   · rw [List.getElem?_set_ne e]
  have key : ∀ l : List Ed, l.Pairwise Lt ↔ (l.map (fun e => (e.1, e.2.1))).Pairwise (fun a b : PE => a.1 < b.1 ∨ (a.1 = b.1 ∧ a.2 < b.2)) := by
   intro l; rw [List.pairwise_map]; rfl
  rw [key, this, ← key]
  exact h.2
theorem uv_set {i : Nat} {e : Ed} (hi : es[i]? = some e) (t : Int) : uv (es.set i (e.1, e.2.1, t)) = uv es := by
 unfold uv
 apply List.ext_getElem?
 intro j
 rw [List.getElem?_map, List.getElem?_map]
 by_cases e : i = j
 · subst e; obtain ⟨hi1, rfl⟩ := List.getElem?_eq_some_iff.1 hi; simp [hi1]
 · rw [List.getElem?_set_ne e]
end

/-! ## The greatest one -/
def lsB (a b : Ed) : Bool := decide (a.1 < b.1) || (decide (a.1 = b.1) && decide (a.2.1 < b.2.1))
def gtB (d e : Ed) : Bool := decide (d.2.2 < e.2.2) || (decide (e.2.2 = d.2.2) && lsB d e)
def gre1 (d e : Ed) : Ed := if gtB d e then e else d
def gre : List Ed → Option Ed
 | [] => none
 | e :: l => some (l.foldl gre1 e)
theorem gtB_iff (d e : Ed) : gtB d e = true ↔ d.2.2 < e.2.2 ∨ (e.2.2 = d.2.2 ∧ (d.1 < e.1 ∨ (d.1 = e.1 ∧ d.2.1 < e.2.1))) := by
 simp [gtB, lsB]
theorem gtB_no (d e : Ed) : gtB d e = false ↔ ¬ (d.2.2 < e.2.2 ∨ (e.2.2 = d.2.2 ∧ (d.1 < e.1 ∨ (d.1 = e.1 ∧ d.2.1 < e.2.1)))) := by
 rw [← gtB_iff]; simp
theorem gre_fold (l : List Ed) (d : Ed) : (l.foldl gre1 d = d ∨ l.foldl gre1 d ∈ l) ∧ gtB (l.foldl gre1 d) d = false ∧ ∀ e ∈ l, gtB (l.foldl gre1 d) e = false := by
 induction l generalizing d with
 | nil => exact ⟨.inl rfl, by show gtB d d = false; rw [gtB_no]; omega, fun e he => by simp at he⟩
 | cons a l ih =>
  rw [List.foldl_cons]
  obtain ⟨h1, h2, h3⟩ := ih (gre1 d a)
  generalize l.foldl gre1 (gre1 d a) = z at h1 h2 h3
  unfold gre1 at h1 h2
  by_cases hc : gtB d a = true
  ·
   rw [if_pos hc] at h1 h2
   refine ⟨.inr ?_, ?_, ?_⟩
   ·
    rcases h1 with rfl | h1
    · simp
    · exact List.mem_cons_of_mem _ h1
   ·
    rw [gtB_no] at h2 ⊢
    rw [gtB_iff] at hc
    omega
   ·
    intro e he
    rcases List.mem_cons.1 he with rfl | he
    · exact h2
    · exact h3 e he
  ·
   rw [if_neg hc] at h1 h2
   have hc' : gtB d a = false := by simpa using hc
   refine ⟨?_, h2, ?_⟩
   ·
    rcases h1 with rfl | h1
    · exact .inl rfl
    · exact .inr (List.mem_cons_of_mem _ h1)
   ·
    intro e he
    rcases List.mem_cons.1 he with rfl | he
    ·
     rw [gtB_no] at h2 hc' ⊢
     omega
    · exact h3 e he
theorem gre_spec {q : List Ed} {d : Ed} (h : gre q = some d) : d ∈ q ∧ ∀ e ∈ q, gtB d e = false := by
 cases q with
 | nil => simp [gre] at h
 | cons a l =>
  simp only [gre] at h
  injection h with h
  obtain ⟨h1, h2, h3⟩ := gre_fold l a
  rw [h] at h1 h2 h3
  refine ⟨?_, ?_⟩
  ·
   rcases h1 with rfl | h1
   · simp
   · exact List.mem_cons_of_mem _ h1
  ·
   intro e he
   rcases List.mem_cons.1 he with rfl | he
   · exact h2
   · exact h3 e he
theorem gre_none {q : List Ed} : gre q = none ↔ q = [] := by cases q <;> simp [gre]
theorem gre_ext {q q' : List Ed} (h : ∀ e, e ∈ q ↔ e ∈ q') : gre q = gre q' := by
 cases h1 : gre q with
 | none =>
  rw [gre_none] at h1; subst h1
  cases h2 : gre q' with
  | none => rfl
  | some d => exact absurd ((h d).2 (gre_spec h2).1) (by simp)
 | some d =>
  have k := gre_spec h1
  cases h2 : gre q' with
  | none => rw [gre_none] at h2; subst h2; exact absurd ((h d).1 k.1) (by simp)
  | some d' =>
   have k' := gre_spec h2
   have a1 := k.2 d' ((h d').2 k'.1)
   have a2 := k'.2 d ((h d).1 k.1)
   rw [gtB_no] at a1 a2
   obtain ⟨x, y, t⟩ := d
   obtain ⟨x', y', t'⟩ := d'
   simp at a1 a2 ⊢
   omega
theorem gre_tier {q : List Ed} {d : Ed} (h : gre q = some d) {e : Ed} (he : e ∈ q) : e.2.2 ≤ d.2.2 := by
 have := (gre_spec h).2 e he
 rw [gtB_no] at this; omega
/-! ## Ways in forests -/
theorem Vs.app {l : List PE} {x : Int} : ∀ {p q : List Nat} {u : Int}, Tr l u p x → ∀ z, z ∈ Vs l u (p ++ q) → z ∈ Vs l u p ∨ z ∈ Vs l x q
 | [], q, u, h, z, hz => by simp [Tr] at h; subst h; exact .inr hz
 | i :: p, q, u, h, z, hz => by
  obtain ⟨e, he, hu, ht⟩ := h
  simp only [List.cons_append, Vs, he, List.mem_cons] at hz ⊢
  rcases hz with rfl | hz
  · exact .inl (.inl rfl)
  ·
   rcases Vs.app ht z hz with h | h
   · exact .inl (.inr h)
   · exact .inr h
theorem Sm.app {l : List PE} {v x : Int} : ∀ {p q : List Nat} {u : Int}, Sm l u p x → Sm l x q v → (∀ z, z ∈ Vs l u p → z ∈ Vs l x q → z = x) → Sm l u (p ++ q) v
 | [], q, u, h, h2, hd => by have := h.1; simp [Tr] at this; subst this; exact h2
 | i :: p, q, u, h, h2, hd => by
  obtain ⟨e, he, hu, ht, hn, _⟩ := h.tail
  have hd' : ∀ z, z ∈ Vs l (oth e u) p → z ∈ Vs l x q → z = x := fun z h1 h3 => hd z (by simp only [Vs, he]; exact List.mem_cons_of_mem _ h1) h3
  have ih := Sm.app ht h2 hd'
  refine ⟨⟨e, he, hu, ih.1⟩, ?_⟩
  simp only [List.cons_append, Vs, he, List.nodup_cons]
  refine ⟨fun hm => ?_, ih.2⟩
  rcases Vs.app ht.1 u hm with h3 | h3
  · exact hn h3
  ·
   have : u = x := hd u (Vs_mem _ _ _) h3
   subst this
   exact hn ht.1.last
theorem Tr.mono {l : List PE} {e : PE} {v : Int} : ∀ {p : List Nat} {u : Int}, Tr l u p v → Tr (l ++ [e]) u p v ∧ Vs (l ++ [e]) u p = Vs l u p
 | [], u, h => ⟨h, rfl⟩
 | i :: p, u, h => by
  obtain ⟨d, hd, hu, ht⟩ := h
  have hi : i < l.length := (List.getElem?_eq_some_iff.1 hd).1
  have hd' : (l ++ [e])[i]? = some d := by rw [List.getElem?_append_left hi]; exact hd
  have ih := Tr.mono (e := e) ht
  exact ⟨⟨d, hd', hu, ih.1⟩, by simp only [Vs, hd, hd', ih.2]⟩
theorem Sm.mono {l : List PE} {e : PE} {u v : Int} {p : List Nat} (h : Sm l u p v) : Sm (l ++ [e]) u p v := by
 have := Tr.mono (e := e) h.1
 exact ⟨this.1, by rw [this.2]; exact h.2⟩
theorem Tr.near {n : Nat} {l : List PE} (hl : MayL n l) {v : Int} : ∀ {p : List Nat} {u : Int}, Tr l u p v → ∀ z ∈ Vs l u p, Cn n l u z
 | [], u, h, z, hz => by simp [Vs] at hz; subst hz; rfl
 | i :: p, u, h, z, hz => by
  obtain ⟨d, hd, hu, ht⟩ := h
  simp only [Vs, hd, List.mem_cons] at hz
  rcases hz with rfl | hz
  · rfl
  ·
   have h1 := Tr.near hl ht z hz
   have h2 := (oth_eq (g (partOf n l)) hu).1 (Cn.edge hl (List.mem_of_getElem? hd))
   unfold Cn at *
   rw [h2, h1]
theorem way {n : Nat} : ∀ l : List PE, MayL n l → ∀ u v : Int, InR n u → InR n v → Cn n l u v → ∃ p, Sm l u p v := by
 refine snoc_ind ?_ ?_
 ·
  intro _ u v hu hv h
  refine ⟨[], ?_, by simp [Vs]⟩
  unfold Cn at h
  change g (idl n) u = g (idl n) v at h
  rw [g_idl hu, g_idl hv] at h
  exact h
 ·
  intro l e ih hm u v hu hv h
  obtain ⟨hl, h1, h2⟩ := hm.init
  by_cases hc : Cn n l u v
  ·
   obtain ⟨p, hp⟩ := ih hl u v hu hv hc
   exact ⟨p, Sm.mono hp⟩
  ·
   have hx : ∃ x, (e.1 = x ∨ e.2 = x) ∧ Cn n l u x ∧ Cn n l (oth e x) v := by
    unfold Cn at h hc
    rw [partOf_snoc, g_join _ _ _ _ (by rw [len_partOf]; exact hu), g_join _ _ _ _ (by rw [len_partOf]; exact hv)] at h
    have key : (Cn n l u e.1 ∧ Cn n l e.2 v) ∨ (Cn n l u e.2 ∧ Cn n l e.1 v) := by
     unfold Cn
     split at h <;> split at h <;> omega
    rcases key with ⟨a, b⟩ | ⟨a, b⟩
    ·
     refine ⟨e.1, .inl rfl, a, ?_⟩
     rw [show oth e e.1 = e.2 by simp [oth]]; exact b
    ·
     by_cases h12 : e.1 = e.2
     ·
      refine ⟨e.1, .inl rfl, by rw [h12]; exact a, ?_⟩
      rw [show oth e e.1 = e.2 by simp [oth], ← h12]; exact b
     ·
      refine ⟨e.2, .inr rfl, a, ?_⟩
      rw [show oth e e.2 = e.1 by simp [oth, h12]]; exact b
   obtain ⟨x, hx, c1, c2⟩ := hx
   have hxr : InR n x := by rcases hx with h | h <;> rw [← h] <;> assumption
   have hor : InR n (oth e x) := oth_in ⟨h1, h2⟩ x
   obtain ⟨p, hp⟩ := ih hl u x hu hxr c1
   obtain ⟨q, hq⟩ := ih hl (oth e x) v hor hv c2
   have hq' : Sm (l ++ [e]) x (l.length :: q) v := by
    have he : (l ++ [e])[l.length]? = some e := by simp
    have hm' := Sm.mono (e := e) hq
    refine ⟨⟨e, he, hx, hm'.1⟩, ?_⟩
    simp only [Vs, he, List.nodup_cons]
    refine ⟨fun hz => ?_, hm'.2⟩
    rw [(Tr.mono (e := e) hq.1).2] at hz
    have := Tr.near hl hq.1 x hz
    unfold Cn at *
    exact hc (by rw [c1, ← this, c2])
   refine ⟨p ++ l.length :: q, Sm.app (Sm.mono hp) hq' (fun z z1 z2 => ?_)⟩
   have he : (l ++ [e])[l.length]? = some e := by simp
   simp only [Vs, he, List.mem_cons] at z2
   rcases z2 with z2 | z2
   · exact z2
   ·
    rw [(Tr.mono (e := e) hq.1).2] at z2
    rw [(Tr.mono (e := e) hp.1).2] at z1
    have a1 := Tr.near hl hp.1 z z1
    have a2 := Tr.near hl hq.1 z z2
    unfold Cn at *
    exact absurd (by rw [a1, ← a2, c2]) hc
end Tp
namespace Tp
open Pt
set_option linter.unusedVariables false

theorem fst_nodup {n : Nat} {l : List PE} (h : Fst n l) : l.Nodup := by
 rw [List.Nodup, List.pairwise_iff_getElem]
 intro i j hi hj hij he
 have := h.inj (List.getElem?_eq_getElem hi) (by rw [he]; exact List.getElem?_eq_getElem hj)
 omega
theorem fst_perm {n : Nat} {l m : List PE} (hf : Fst n l) (hm : m.Nodup) (h : ∀ x, x ∈ l ↔ x ∈ m) : Fst n m := by
 have hp : l.Perm m := (List.perm_ext_iff_of_nodup (fst_nodup hf) hm).2 h
 refine ⟨hf.1.sub fun x hx => (h x).2 hx, ?_⟩
 rw [partOf_same hf.1 h, ← hp.length_eq]
 exact hf.2
theorem fst_init {n : Nat} {m : List PE} : ∀ r : List PE, Fst n (m ++ r) → Fst n m := by
 refine snoc_ind ?_ ?_
 · intro h; simpa using h
 ·
  intro r e ih h
  rw [← List.append_assoc] at h
  exact ih h.init.1
theorem fst_sub {n : Nat} {l m : List PE} (hf : Fst n l) (hm : m.Nodup) (h : ∀ x ∈ m, x ∈ l) : Fst n m := by
 refine fst_init (l.filter fun x => decide (x ∉ m)) (fst_perm hf ?_ ?_)
 ·
  rw [List.nodup_append]
  refine ⟨hm, (fst_nodup hf).sublist List.filter_sublist, fun a ha b hb => ?_⟩
  rintro rfl
  have := List.mem_filter.1 hb
  simp at this
  exact this.2 ha
 ·
  intro x
  rw [List.mem_append, List.mem_filter]
  constructor
  ·
   intro hx
   by_cases e : x ∈ m
   · exact .inl e
   · exact .inr ⟨hx, by simpa using e⟩
  ·
   rintro (hx | hx)
   · exact h x hx
   · exact hx.1
section
variable {n : Nat} {es : List Ed}
theorem uv_fr_nodup (h : Tb n es) (s : Int) : (uv (fr s es)).Nodup := (h.fr s).nodup
theorem uv_fr_sub {s L : Int} (hs : s ≤ L) : ∀ x ∈ uv (fr s es), x ∈ uv (fr L es) := by
 intro x hx
 obtain ⟨e, he, rfl⟩ := uv_mem.1 hx
 obtain ⟨h1, h2, h3⟩ := mem_fr.1 he
 exact uv_mem.2 ⟨e, mem_fr.2 ⟨h1, h2, by omega⟩, rfl⟩
theorem fst_low (h : Tb n es) {L : Int} (hf : Fst n (uv (fr L es))) {s : Int} (hs : s ≤ L) : Fst n (uv (fr s es)) := fst_sub hf (uv_fr_nodup h s) (uv_fr_sub hs)
theorem cn_mono {l m : List PE} (hm : MayL n m) (h : ∀ x ∈ l, x ∈ m) {a b : Int} (ha : InR n a) (hb : InR n b) (hc : Cn n l a b) : Cn n m a b :=
 Cn.univ (g (partOf n m)) (hm.sub h) (fun e he => Cn.edge hm (h e he)) ha hb hc
def but (l : List Ed) (d : Ed) : List Ed := l.filter fun x => decide (x ≠ d)
theorem mem_but {l : List Ed} {d x : Ed} : x ∈ but l d ↔ x ∈ l ∧ x ≠ d := by unfold but; rw [List.mem_filter]; simp
def sepB (n : Nat) (l : List Ed) (a b : Int) (d : Ed) : Bool := !decide (g (partOf n (uv (but l d))) a = g (partOf n (uv (but l d))) b)
def seps (n : Nat) (l : List Ed) (a b : Int) : List Ed := if g (partOf n (uv l)) a = g (partOf n (uv l)) b then l.filter (sepB n l a b) else []
theorem mem_seps {l : List Ed} {a b : Int} {d : Ed} : d ∈ seps n l a b ↔ Cn n (uv l) a b ∧ d ∈ l ∧ ¬ Cn n (uv (but l d)) a b := by
 unfold seps
 by_cases h : g (partOf n (uv l)) a = g (partOf n (uv l)) b
 ·
  rw [if_pos h, List.mem_filter]
  unfold sepB Cn
  simp [h]
 ·
  rw [if_neg h]
  unfold Cn
  simp [h]
theorem but_erase {l : List Ed} (h : Tb n l) {i : Nat} {d : Ed} (hi : l[i]? = some d) : partOf n (uv (but l d)) = partOf n ((uv l).eraseIdx i) := by
 refine partOf_same (h.may.sub fun x hx => mem_erase hx) (fun x => ?_)
 rw [List.mem_eraseIdx_iff_getElem?, uv_mem]
 constructor
 ·
  rintro ⟨j, hj, hx⟩
  unfold uv at hx
  rw [List.getElem?_map] at hx
  cases hl : l[j]? with
  | none => rw [hl] at hx; simp at hx
  | some e =>
   rw [hl] at hx
   simp at hx
   refine ⟨e, mem_but.2 ⟨List.mem_of_getElem? hl, ?_⟩, hx⟩
   rintro rfl
   exact hj (h.inj hl hi rfl rfl)
 ·
  rintro ⟨e, he, rfl⟩
  obtain ⟨h1, h2⟩ := mem_but.1 he
  obtain ⟨j, hj⟩ := List.mem_iff_getElem?.1 h1
  refine ⟨j, ?_, by simp [uv, hj]⟩
  rintro rfl
  rw [hi] at hj; injection hj with hj; exact h2 hj.symm
theorem seps_way {l : List Ed} (h : Tb n l) (hf : Fst n (uv l)) {a b : Int} {p : List Nat} (hp : Sm (uv l) a p b) (d : Ed) : d ∈ seps n l a b ↔ d ∈ edsAt l p := by
 rw [mem_seps]
 unfold edsAt
 rw [List.mem_filterMap]
 constructor
 ·
  rintro ⟨_, hd, hs⟩
  obtain ⟨i, hi⟩ := List.mem_iff_getElem?.1 hd
  refine ⟨i, ?_, hi⟩
  refine Decidable.byContradiction fun hn => hs ?_
  have := hp.1.cn_but hf.1 hn
  unfold Cn at *
  rw [but_erase h hi]; exact this
 ·
  rintro ⟨i, hi, hd⟩
  refine ⟨hp.1.cn hf.1, List.mem_of_getElem? hd, ?_⟩
  obtain ⟨k, hk, rfl⟩ := List.mem_iff_getElem.1 hi
  obtain ⟨e, x, he, hx, c1, c2, c3⟩ := hf.cut hp hk
  unfold Cn at *
  rw [but_erase h hd]; exact c3
theorem way_edges {l : List Ed} {a b : Int} {p : List Nat} (hp : Sm (uv l) a p b) {q : Int → Int} (hq : ∀ d ∈ edsAt l p, q d.1 = q d.2.1) : q a = q b := by
 refine hp.1.univ q fun i hi e he => ?_
 unfold uv at he
 rw [List.getElem?_map] at he
 cases hl : l[i]? with
 | none => rw [hl] at he; simp at he
 | some d =>
  rw [hl] at he; simp at he; subst he
  exact hq d (List.mem_filterMap.2 ⟨i, hi, hl⟩)
theorem seps_univ {l : List Ed} (h : Tb n l) (hf : Fst n (uv l)) {a b : Int} (ha : InR n a) (hb : InR n b) (hc : Cn n (uv l) a b) {q : Int → Int} (hq : ∀ d ∈ seps n l a b, q d.1 = q d.2.1) : q a = q b := by
 obtain ⟨p, hp⟩ := way (uv l) hf.1 a b ha hb hc
 exact way_edges hp fun d hd => hq d ((seps_way h hf hp d).2 hd)
theorem seps_some {l : List Ed} (h : Tb n l) (hf : Fst n (uv l)) {a b : Int} (ha : InR n a) (hb : InR n b) (hc : Cn n (uv l) a b) (hab : a ≠ b) : seps n l a b ≠ [] := by
 intro he
 exact hab (seps_univ h hf ha hb hc (q := id) (fun d hd => by rw [he] at hd; simp at hd))
theorem cn_low (h : Tb n es) {L : Int} (hf : Fst n (uv (fr L es))) {k : Int} (hk : k ≤ L) {a b : Int} (ha : InR n a) (hb : InR n b) :
  Cn n (uv (fr k es)) a b ↔ Cn n (uv (fr L es)) a b ∧ ∀ d ∈ seps n (fr L es) a b, d.2.2 ≤ k := by
 have hfk := fst_low h hf hk
 constructor
 ·
  intro hc
  have hL := cn_mono hf.1 (uv_fr_sub hk) ha hb hc
  refine ⟨hL, fun d hd => ?_⟩
  obtain ⟨_, h1, h2⟩ := mem_seps.1 hd
  obtain ⟨h3, h4, h5⟩ := mem_fr.1 h1
  refine Decidable.byContradiction fun hn => h2 ?_
  refine cn_mono (l := uv (fr k es)) (hf.1.sub fun x hx => ?_) (fun x hx => ?_) ha hb hc
  ·
   obtain ⟨e, he, rfl⟩ := uv_mem.1 hx
   exact uv_mem.2 ⟨e, (mem_but.1 he).1, rfl⟩
  ·
   obtain ⟨e, he, rfl⟩ := uv_mem.1 hx
   obtain ⟨k1, k2, k3⟩ := mem_fr.1 he
   refine uv_mem.2 ⟨e, mem_but.2 ⟨mem_fr.2 ⟨k1, k2, by omega⟩, ?_⟩, rfl⟩
   rintro rfl
   omega
 ·
  rintro ⟨hc, hd⟩
  refine seps_univ (h.fr L) hf ha hb hc (q := g (partOf n (uv (fr k es)))) (fun d hd1 => ?_)
  obtain ⟨_, h1, _⟩ := mem_seps.1 hd1
  obtain ⟨h3, h4, _⟩ := mem_fr.1 h1
  exact Cn.edge hfk.1 (uv_mem.2 ⟨d, mem_fr.2 ⟨h3, h4, hd d hd1⟩, rfl⟩)
theorem seps_low (h : Tb n es) {L : Int} (hf : Fst n (uv (fr L es))) {k : Int} (hk : k ≤ L) {a b : Int} (ha : InR n a) (hb : InR n b) (hc : Cn n (uv (fr k es)) a b) (d : Ed) :
  d ∈ seps n (fr k es) a b ↔ d ∈ seps n (fr L es) a b := by
 have hfk := fst_low h hf hk
 obtain ⟨hL, hlow⟩ := (cn_low h hf hk ha hb).1 hc
 have subk : ∀ x, x ∈ fr k es → x ∈ fr L es := fun x hx => by
  obtain ⟨h1, h2, h3⟩ := mem_fr.1 hx
  exact mem_fr.2 ⟨h1, h2, by omega⟩
 constructor
 ·
  intro hd
  obtain ⟨_, h1, h2⟩ := mem_seps.1 hd
  refine Decidable.byContradiction fun hn => h2 ?_
  refine seps_univ (h.fr L) hf ha hb hL (q := g (partOf n (uv (but (fr k es) d)))) (fun x hx => ?_)
  have hxm := mem_seps.1 hx
  obtain ⟨k1, k2, _⟩ := mem_fr.1 hxm.2.1
  refine Cn.edge (hfk.1.sub fun x hx => ?_) (uv_mem.2 ⟨x, mem_but.2 ⟨mem_fr.2 ⟨k1, k2, hlow x hx⟩, ?_⟩, rfl⟩)
  ·
   obtain ⟨e, he, rfl⟩ := uv_mem.1 hx
   exact uv_mem.2 ⟨e, (mem_but.1 he).1, rfl⟩
  ·
   rintro rfl
   exact hn hx
 ·
  intro hd
  obtain ⟨_, h1, h2⟩ := mem_seps.1 hd
  obtain ⟨k1, k2, _⟩ := mem_fr.1 h1
  refine mem_seps.2 ⟨hc, mem_fr.2 ⟨k1, k2, hlow d hd⟩, fun hcn => h2 ?_⟩
  refine cn_mono (hf.1.sub fun x hx => ?_) (fun x hx => ?_) ha hb hcn
  ·
   obtain ⟨e, he, rfl⟩ := uv_mem.1 hx
   exact uv_mem.2 ⟨e, (mem_but.1 he).1, rfl⟩
  ·
   obtain ⟨e, he, rfl⟩ := uv_mem.1 hx
   exact uv_mem.2 ⟨e, mem_but.2 ⟨subk e (mem_but.1 he).1, (mem_but.1 he).2⟩, rfl⟩
end

/-! ## Raising -/
def treeL (n : Nat) (es : List Ed) (t : Int) (v : Int) : List Int := classL (partOf n (uv (fr t es))) v
def crB (c : List Int) (x : PE) : Bool := c.contains x.1 != c.contains x.2
def cutL (es : List Ed) (c : List Int) : List Ed := es.filter fun e => crB c (e.1, e.2.1)
def remF (n : Nat) (L : Int) (es : List Ed) (e : Ed) : List Ed := if e.2.2 = 0 then (match gre (seps n (fr L es) e.1 e.2.1) with
 | some d => setT es d.1 d.2.1 0
 | none => es) else es
def raisedF (n : Nat) (L : Int) (S : Nat → List PE → Option Nat) (es : List Ed) (t : Nat) (v : Int) : List Ed :=
 if (treeL n es t v).length = (treeL n es ((t : Int) + 1) v).length then
  match S t (uv (cutL es (treeL n es t v))) with
  | none => es
  | some i => match (cutL es (treeL n es t v))[i]? with
   | none => es
   | some e => setT (remF n L es e) e.1 e.2.1 ((t : Int) + 1)
 else es
structure Gd (n : Nat) (L : Int) (es : List Ed) : Prop where
  tb : Tb n es
  tr : ∀ e ∈ es, e.2.2 ≤ L
  fs : Fst n (uv (fr L es))
section
variable {n : Nat} {L : Int} {es : List Ed}
theorem classL_cls {p : List Int} (hp : Rt p) {v : Int} (hv : InR p.length v) : classL p v = cls p v := by
 unfold classL
 rw [(rightB_iff p).2 hp, (placeB_iff p.length v).2 hv]
 rfl
theorem mem_cls {p : List Int} {v x : Int} : x ∈ cls p v ↔ InR p.length x ∧ Cl p x v := by
 unfold cls Cl InR
 rw [List.mem_map]
 constructor
 ·
  rintro ⟨i, hi, rfl⟩
  rw [List.mem_filter, List.mem_range] at hi
  exact ⟨⟨by simp, by simpa using hi.1⟩, by simpa using hi.2⟩
 ·
  rintro ⟨⟨h1, h2⟩, h3⟩
  refine ⟨x.toNat, ?_, by simp; omega⟩
  rw [List.mem_filter, List.mem_range]
  refine ⟨by omega, ?_⟩
  rw [show ((x.toNat : Nat) : Int) = x by omega]
  simpa using h3
theorem Gd.tree (h : Gd n L es) {t : Int} (ht : t ≤ L) {v : Int} (hv : InR n v) : treeL n es t v = cls (partOf n (uv (fr t es))) v :=
 classL_cls (Rt_partOf (fst_low h.tb h.fs ht).1) (by rw [len_partOf]; exact hv)
theorem Gd.mem_tree (h : Gd n L es) {t : Int} (ht : t ≤ L) {v : Int} (hv : InR n v) {x : Int} : x ∈ treeL n es t v ↔ InR n x ∧ Cn n (uv (fr t es)) x v := by
 rw [h.tree ht hv, mem_cls, len_partOf]; rfl
theorem Gd.up (h : Gd n L es) {s t : Int} (hst : s ≤ t) (ht : t ≤ L) {a b : Int} (ha : InR n a) (hb : InR n b) (hc : Cn n (uv (fr s es)) a b) : Cn n (uv (fr t es)) a b :=
 cn_mono (fst_low h.tb h.fs ht).1 (uv_fr_sub hst) ha hb hc
theorem sublist_filter {α : Type} {p q : α → Bool} (l : List α) (h : ∀ x ∈ l, p x = true → q x = true) : (l.filter p).Sublist (l.filter q) := by
 have : l.filter p = (l.filter q).filter p := by
  rw [List.filter_filter]
  apply List.filter_congr
  intro x hx
  cases hp : p x
  · simp
  · simp [h x hx hp]
 rw [this]
 exact List.filter_sublist
theorem Gd.tree_le (h : Gd n L es) {t s : Int} (hts : t ≤ s) (hs : s ≤ L) {v : Int} (hv : InR n v) : (treeL n es t v).Sublist (treeL n es s v) := by
 rw [h.tree (by omega) hv, h.tree hs hv]
 unfold cls
 rw [len_partOf, len_partOf]
 refine (sublist_filter _ fun i hi he => ?_).map _
 have hir : InR n (i : Int) := ⟨by omega, by have := List.mem_range.1 hi; omega⟩
 simp only [decide_eq_true_eq] at he ⊢
 exact h.up hts hs hir hv he
theorem Gd.tree_eq (h : Gd n L es) {t s : Int} (hts : t ≤ s) (hs : s ≤ L) {v : Int} (hv : InR n v) (hl : (treeL n es t v).length = (treeL n es s v).length) {x : Int} (hx : InR n x) (hc : Cn n (uv (fr s es)) x v) : Cn n (uv (fr t es)) x v := by
 have e := (h.tree_le hts hs hv).eq_of_length hl
 have := (h.mem_tree hs hv (x := x)).2 ⟨hx, hc⟩
 rw [← e] at this
 exact ((h.mem_tree (by omega) hv).1 this).2
theorem Gd.in1 (h : Gd n L es) {e : Ed} (he : e ∈ es) : InR n e.1 ∧ InR n e.2.1 := by
 have := h.tb.1 e he
 unfold EOk at this
 exact ⟨⟨by omega, by omega⟩, ⟨by omega, by omega⟩⟩
theorem Gd.cross (h : Gd n L es) {t : Int} (ht : t + 1 ≤ L) {v : Int} (hv : InR n v) (hl : (treeL n es t v).length = (treeL n es (t + 1) v).length) {e : Ed} (he : e ∈ es) (hc : crB (treeL n es t v) (e.1, e.2.1) = true) :
  ¬ Cn n (uv (fr (t + 1) es)) e.1 e.2.1 ∧ ((Cn n (uv (fr t es)) e.1 v ∧ ¬ Cn n (uv (fr t es)) e.2.1 v) ∨ (Cn n (uv (fr t es)) e.2.1 v ∧ ¬ Cn n (uv (fr t es)) e.1 v)) := by
 obtain ⟨i1, i2⟩ := h.in1 he
 have hx : (Cn n (uv (fr t es)) e.1 v ∧ ¬ Cn n (uv (fr t es)) e.2.1 v) ∨ (Cn n (uv (fr t es)) e.2.1 v ∧ ¬ Cn n (uv (fr t es)) e.1 v) := by
  have m1 := h.mem_tree (t := t) (by omega) hv (x := e.1)
  have m2 := h.mem_tree (t := t) (by omega) hv (x := e.2.1)
  simp only [crB] at hc
  by_cases c1 : e.1 ∈ treeL n es t v
  ·
   by_cases c2 : e.2.1 ∈ treeL n es t v
   · simp [c1, c2] at hc
   · exact .inl ⟨(m1.1 c1).2, fun q => c2 (m2.2 ⟨i2, q⟩)⟩
  ·
   by_cases c2 : e.2.1 ∈ treeL n es t v
   · exact .inr ⟨(m2.1 c2).2, fun q => c1 (m1.2 ⟨i1, q⟩)⟩
   · simp [c1, c2] at hc
 refine ⟨fun hcn => ?_, hx⟩
 rcases hx with ⟨a, b⟩ | ⟨a, b⟩
 ·
  refine b (h.tree_eq (by omega) ht hv hl i2 ?_)
  have := h.up (t := t + 1) (by omega) ht i1 hv a
  unfold Cn at *; rw [← hcn, this]
 ·
  refine b (h.tree_eq (by omega) ht hv hl i1 ?_)
  have := h.up (t := t + 1) (by omega) ht i2 hv a
  unfold Cn at *; rw [hcn, this]
theorem Gd.tier (h : Gd n L es) {s : Int} (hs : s ≤ L) {e : Ed} (he : e ∈ es) (hc : ¬ Cn n (uv (fr s es)) e.1 e.2.1) : e.2.2 = 0 ∨ s < e.2.2 := by
 have h0 := (h.tb.1 e he).2.2.2.1
 by_cases h1 : e.2.2 = 0
 · exact .inl h1
 ·
  refine .inr (Decidable.byContradiction fun hn => hc ?_)
  exact Cn.edge (fst_low h.tb h.fs hs).1 (uv_mem.2 ⟨e, mem_fr.2 ⟨he, by omega, by omega⟩, rfl⟩)
inductive Rs (n : Nat) (L : Int) (es : List Ed) (t : Nat) (v : Int) (S : Nat → List PE → Option Nat) : List Ed → Prop
 | grown (h : (treeL n es t v).length ≠ (treeL n es ((t : Int) + 1) v).length) : Rs n L es t v S es
 | none (h : (treeL n es t v).length = (treeL n es ((t : Int) + 1) v).length) (hs : S t (uv (cutL es (treeL n es t v))) = .none) : Rs n L es t v S es
 | one (h : (treeL n es t v).length = (treeL n es ((t : Int) + 1) v).length) (i : Nat) (e : Ed) (hi : es[i]? = some e) (hc : crB (treeL n es t v) (e.1, e.2.1) = true) (ht : e.2.2 ≠ 0 ∨ ¬ Cn n (uv (fr L es)) e.1 e.2.1) :
   Rs n L es t v S (es.set i (e.1, e.2.1, (t : Int) + 1))
 | two (h : (treeL n es t v).length = (treeL n es ((t : Int) + 1) v).length) (i : Nat) (e : Ed) (hi : es[i]? = some e) (hc : crB (treeL n es t v) (e.1, e.2.1) = true) (h0 : e.2.2 = 0) (hcn : Cn n (uv (fr L es)) e.1 e.2.1)
   (j : Nat) (d : Ed) (hj : es[j]? = some d) (hij : j ≠ i) (hd : d ∈ seps n (fr L es) e.1 e.2.1) (hg : ∀ x ∈ seps n (fr L es) e.1 e.2.1, x.2.2 ≤ d.2.2) (hdt : (t : Int) + 1 < d.2.2) :
   Rs n L es t v S ((es.set j (d.1, d.2.1, 0)).set i (e.1, e.2.1, (t : Int) + 1))
def SOk (S : Nat → List PE → Option Nat) : Prop := ∀ t ps i, S t ps = some i → i < ps.length
theorem mem_cut {c : List Int} {e : Ed} : e ∈ cutL es c ↔ e ∈ es ∧ crB c (e.1, e.2.1) = true := by unfold cutL; rw [List.mem_filter]
theorem Gd.rs (h : Gd n L es) {t : Nat} (ht : (t : Int) + 1 ≤ L) {v : Int} (hv : InR n v) {S : Nat → List PE → Option Nat} (hS : SOk S) : Rs n L es t v S (raisedF n L S es t v) := by
 unfold raisedF
 by_cases hl : (treeL n es t v).length = (treeL n es ((t : Int) + 1) v).length
 case neg => rw [if_neg hl]; exact .grown hl
 rw [if_pos hl]
 cases hs : S t (uv (cutL es (treeL n es t v))) with
 | none => exact .none hl hs
 | some k =>
  have hk := hS _ _ _ hs
  have hk' : k < (cutL es (treeL n es t v)).length := by simpa [uv] using hk
  dsimp only
  cases hce : (cutL es (treeL n es t v))[k]? with
  | none => rw [List.getElem?_eq_getElem hk'] at hce; cases hce
  | some e =>
   obtain ⟨he, hc⟩ := mem_cut.1 (List.mem_of_getElem? hce)
   obtain ⟨i, hi⟩ := List.mem_iff_getElem?.1 he
   obtain ⟨i1, i2⟩ := h.in1 he
   dsimp only
   unfold remF
   obtain ⟨nc, _⟩ := h.cross ht hv hl he hc
   by_cases h0 : e.2.2 = 0
   ·
    rw [if_pos h0]
    by_cases hcn : Cn n (uv (fr L es)) e.1 e.2.1
    ·
     have hne : e.1 ≠ e.2.1 := by have := (h.tb.1 e he).2.1; omega
     cases hg : gre (seps n (fr L es) e.1 e.2.1) with
     | none => exact absurd (gre_none.1 hg) (seps_some (h.tb.fr L) h.fs i1 i2 hcn hne)
     | some d =>
      have hd := (gre_spec hg).1
      obtain ⟨d1, d2, d3⟩ := mem_fr.1 (mem_seps.1 hd).2.1
      obtain ⟨j, hj⟩ := List.mem_iff_getElem?.1 d1
      have hij : j ≠ i := by
       rintro rfl
       rw [hi] at hj; injection hj with hj; subst hj; omega
      have e1 : setT es d.1 d.2.1 0 = es.set j (d.1, d.2.1, 0) := h.tb.setT hj 0
      have hi' : (es.set j (d.1, d.2.1, 0))[i]? = some e := by rw [List.getElem?_set_ne hij]; exact hi
      have e2 := (h.tb.set hj (t := 0) (by omega)).setT hi' ((t : Int) + 1)
      simp only [e1, e2]
      refine .two hl i e hi hc h0 hcn j d hj hij hd (fun x hx => gre_tier hg hx) ?_
      refine Decidable.byContradiction fun hn => nc ?_
      exact (cn_low h.tb h.fs ht i1 i2).2 ⟨hcn, fun x hx => by have := gre_tier hg hx; omega⟩
    ·
     have hno : seps n (fr L es) e.1 e.2.1 = [] := by
      unfold seps; rw [if_neg]; exact hcn
     have hgn : gre (seps n (fr L es) e.1 e.2.1) = none := by rw [hno]; rfl
     simp only [hgn]
     rw [h.tb.setT hi]
     exact .one hl i e hi hc (.inr hcn)
   ·
    rw [if_neg h0, h.tb.setT hi]
    exact .one hl i e hi hc (.inl h0)
end
end Tp
namespace Tp
open Pt
set_option linter.unusedVariables false
section
variable {n : Nat} {L : Int} {es : List Ed}
theorem mem_set_in {i : Nat} {e : Ed} (hi : es[i]? = some e) {t s : Int} (ht : 1 ≤ t) (hs : t ≤ s) (x : PE) : x ∈ uv (fr s (es.set i (e.1, e.2.1, t))) ↔ x ∈ uv (fr s es) ∨ x = (e.1, e.2.1) := by
 have hil : i < es.length := (List.getElem?_eq_some_iff.1 hi).1
 rw [mem_uv_fr, mem_uv_fr]
 constructor
 ·
  rintro ⟨j, d, hj, hd, rfl⟩
  by_cases hji : i = j
  ·
   subst hji
   simp [hil] at hj
   subst hj
   exact .inr rfl
  ·
   rw [List.getElem?_set_ne hji] at hj
   exact .inl ⟨j, d, hj, hd, rfl⟩
 ·
  rintro (⟨j, d, hj, hd, rfl⟩ | rfl)
  ·
   by_cases hji : i = j
   ·
    subst hji
    rw [hi] at hj; injection hj with hj; subst hj
    exact ⟨i, (e.1, e.2.1, t), by simp [hil], ⟨ht, hs⟩, rfl⟩
   · exact ⟨j, d, by rw [List.getElem?_set_ne hji]; exact hj, hd, rfl⟩
  · exact ⟨i, (e.1, e.2.1, t), by simp [hil], ⟨ht, hs⟩, rfl⟩
theorem mem_set_del (h : Tb n es) {j : Nat} {d : Ed} (hj : es[j]? = some d) {s : Int} (x : PE) : x ∈ uv (fr s (es.set j (d.1, d.2.1, 0))) ↔ x ∈ uv (fr s es) ∧ x ≠ (d.1, d.2.1) := by
 have hil : j < es.length := (List.getElem?_eq_some_iff.1 hj).1
 rw [mem_uv_fr, mem_uv_fr]
 constructor
 ·
  rintro ⟨i, e, hi, he, rfl⟩
  by_cases hji : j = i
  ·
   subst hji
   simp [hil] at hi
   subst hi
   exact absurd he.1 (by simp)
  ·
   rw [List.getElem?_set_ne hji] at hi
   refine ⟨⟨i, e, hi, he, rfl⟩, fun hx => ?_⟩
   injection hx with h1 h2
   exact hji (h.inj hj hi h1.symm h2.symm)
 ·
  rintro ⟨⟨i, e, hi, he, rfl⟩, hx⟩
  have hji : j ≠ i := by
   rintro rfl
   rw [hj] at hi; injection hi with hi; subst hi; exact hx rfl
  exact ⟨i, e, by rw [List.getElem?_set_ne hji]; exact hi, he, rfl⟩
theorem filter_set {α : Type} (p : α → Bool) (l : List α) {i : Nat} {a b : α} (hi : l[i]? = some a) (ha : p a = false) (hb : p b = false) : (l.set i b).filter p = l.filter p := by
 induction l generalizing i with
 | nil => simp at hi
 | cons c l ih =>
  cases i with
  | zero =>
   simp at hi; subst hi
   simp [ha, hb]
  | succ i =>
   simp at hi
   simp [List.filter_cons, ih hi]
theorem fr_set_out {i : Nat} {e : Ed} (hi : es[i]? = some e) {t s : Int} (h1 : e.2.2 = 0 ∨ s < e.2.2) (h2 : t = 0 ∨ s < t) : fr s (es.set i (e.1, e.2.1, t)) = fr s es := by
 unfold fr
 refine filter_set _ _ hi ?_ ?_
 ·
  rcases h1 with h | h
  · simp [h]
  · simp; omega
 ·
  rcases h2 with h | h
  · simp [h]
  · simp; omega
theorem sep_split {l : List Ed} (h : Tb n l) (hf : Fst n (uv l)) {a b : Int} (ha : InR n a) (hb : InR n b) {d : Ed} (hd : d ∈ seps n l a b) :
  ∀ q : Int → Int, (∀ e ∈ seps n l a b, e ≠ d → q e.1 = q e.2.1) → q a = q b → q d.1 = q d.2.1 := by
 obtain ⟨hc, hdl, _⟩ := mem_seps.1 hd
 obtain ⟨p, hp⟩ := way (uv l) hf.1 a b ha hb hc
 have hd' := (seps_way h hf hp d).1 hd
 unfold edsAt at hd'
 obtain ⟨i, hi, hid⟩ := List.mem_filterMap.1 hd'
 obtain ⟨k, hk, rfl⟩ := List.mem_iff_getElem.1 hi
 have hdu : (uv l)[p[k]]? = some (d.1, d.2.1) := by simp [uv, hid]
 obtain ⟨e, x, he, hx, h1, h2, h3⟩ := Tr.split_ _ _ _ hp.1 hk
 rw [hdu] at he; injection he with he; subst he
 have hn := hp.2
 rw [h3, List.nodup_append] at hn
 obtain ⟨_, _, hdj⟩ := hn
 have hm1 := h1.last
 have hm2 := Vs_mem (uv l) (oth (d.1, d.2.1) x) (p.drop (k + 1))
 have n1 : p[k] ∉ p.take k := fun hi => by
  have := h1.ends _ _ hi hdu
  rcases oth_cases hx with ⟨a, b⟩ | ⟨a, b⟩
  · exact hdj _ this.2 _ hm2 b
  · exact hdj _ this.1 _ hm2 b
 have n2 : p[k] ∉ p.drop (k + 1) := fun hi => by
  have := h2.ends _ _ hi hdu
  rcases oth_cases hx with ⟨a, b⟩ | ⟨a, b⟩
  · exact hdj _ hm1 _ this.1 a.symm
  · exact hdj _ hm1 _ this.2 a.symm
 intro q hq hab
 have key : ∀ {r : List Nat} {y z : Int}, (∀ i ∈ r, i ∈ p) → p[k] ∉ r → Tr (uv l) y r z → q y = q z := by
  intro r y z hr hnr ht
  refine ht.univ q fun i hi e he => ?_
  unfold uv at he
  rw [List.getElem?_map] at he
  cases hl : l[i]? with
  | none => rw [hl] at he; simp at he
  | some c =>
   rw [hl] at he; simp at he; subst he
   refine hq c ((seps_way h hf hp c).2 (List.mem_filterMap.2 ⟨i, hr i hi, hl⟩)) ?_
   rintro rfl
   have := h.inj hl hid rfl rfl
   exact hnr (this ▸ hi)
 have c1 := key (fun i hi => List.mem_of_mem_take hi) n1 h1
 have c2 := key (fun i hi => List.mem_of_mem_drop hi) n2 h2
 refine (oth_eq (e := (d.1, d.2.1)) q hx).2 ?_
 rw [← c1, hab, c2]
theorem Gd.swap_fst (h : Gd n L es) {i j : Nat} {e d : Ed} (hi : es[i]? = some e) (hj : es[j]? = some d) (hij : j ≠ i) (hd : d ∈ seps n (fr L es) e.1 e.2.1) {t : Int} (ht : 1 ≤ t) (htL : t ≤ L) (h16 : t ≤ 16) :
  Gd n L ((es.set j (d.1, d.2.1, 0)).set i (e.1, e.2.1, t)) := by
 have hi' : (es.set j (d.1, d.2.1, 0))[i]? = some e := by rw [List.getElem?_set_ne hij]; exact hi
 have tb1 := h.tb.set hj (t := 0) (by omega)
 have tb2 := tb1.set hi' (t := t) (by omega)
 obtain ⟨i1, i2⟩ := h.in1 (List.mem_of_getElem? hi)
 obtain ⟨hc, hdl, hs⟩ := mem_seps.1 hd
 refine ⟨tb2, ?_, ?_⟩
 ·
  intro x hx
  rcases List.mem_or_eq_of_mem_set hx with hx | rfl
  ·
   rcases List.mem_or_eq_of_mem_set hx with hx | rfl
   · exact h.tr x hx
   · show (0 : Int) ≤ L; omega
  · exact htL
 ·
  have hb : Fst n (uv (but (fr L es) d)) := fst_sub h.fs ((h.tb.fr L).sub List.filter_sublist).nodup (fun x hx => by
   obtain ⟨y, hy, rfl⟩ := uv_mem.1 hx
   exact uv_mem.2 ⟨y, (mem_but.1 hy).1, rfl⟩)
  have h2 : Fst n (uv (but (fr L es) d) ++ [(e.1, e.2.1)]) := hb.snoc i1 i2 hs
  refine fst_perm h2 (uv_fr_nodup tb2 L) (fun x => ?_)
  rw [mem_set_in hi' ht htL, mem_set_del h.tb hj, List.mem_append]
  have : x ∈ uv (but (fr L es) d) ↔ x ∈ uv (fr L es) ∧ x ≠ (d.1, d.2.1) := by
   rw [uv_mem, uv_mem]
   constructor
   ·
    rintro ⟨y, hy, rfl⟩
    obtain ⟨y1, y2⟩ := mem_but.1 hy
    refine ⟨⟨y, y1, rfl⟩, fun hx => y2 ?_⟩
    injection hx with k1 k2
    exact (h.tb.fr L).ends y1 hdl k1 k2
   ·
    rintro ⟨⟨y, hy, rfl⟩, hx⟩
    refine ⟨y, mem_but.2 ⟨hy, ?_⟩, rfl⟩
    rintro rfl
    exact hx rfl
  rw [this]
  simp
theorem Rs.gd (h : Gd n L es) (hL : L ≤ 16) {t : Nat} (ht : (t : Int) + 1 ≤ L) {v : Int} (hv : InR n v) {S : Nat → List PE → Option Nat} {es' : List Ed} (hr : Rs n L es t v S es') : Gd n L es' := by
 cases hr with
 | grown _ => exact h
 | none _ _ => exact h
 | one hl i e hi hc ht' =>
  have tb2 := h.tb.set hi (t := (t : Int) + 1) (by omega)
  obtain ⟨i1, i2⟩ := h.in1 (List.mem_of_getElem? hi)
  refine ⟨tb2, ?_, ?_⟩
  ·
   intro x hx
   rcases List.mem_or_eq_of_mem_set hx with hx | rfl
   · exact h.tr x hx
   · exact ht
  ·
   by_cases hcn : Cn n (uv (fr L es)) e.1 e.2.1
   ·
    have h0 : e.2.2 ≠ 0 := ht'.resolve_right (fun h => h hcn)
    have hem : (e.1, e.2.1) ∈ uv (fr L es) := uv_mem.2 ⟨e, mem_fr.2 ⟨List.mem_of_getElem? hi, by have := (h.tb.1 e (List.mem_of_getElem? hi)).2.2.2.1; omega, h.tr e (List.mem_of_getElem? hi)⟩, rfl⟩
    refine fst_perm h.fs (uv_fr_nodup tb2 L) (fun x => ?_)
    rw [mem_set_in hi (by omega) ht]
    constructor
    · exact .inl
    ·
     rintro (h | rfl)
     · exact h
     · exact hem
   ·
    refine fst_perm (h.fs.snoc (e := (e.1, e.2.1)) i1 i2 hcn) (uv_fr_nodup tb2 L) (fun x => ?_)
    rw [mem_set_in hi (by omega) ht, List.mem_append]
    simp
 | two hl i e hi hc h0 hcn j d hj hij hd hg hdt => exact h.swap_fst hi hj hij hd (by omega) ht (by omega)
def Pp (n : Nat) (L : Int) (es : List Ed) (s : Nat) : List Int := partOf n (uv (fr (min (s : Int) L) es))
theorem len_Pp (s : Nat) : (Pp n L es s).length = n := len_partOf _ _
theorem joinL_comm (p : List Int) (a b : Int) : joinL p a b = joinL p b a := by
 unfold joinL; rw [Int.max_comm, Int.min_comm]
theorem Rs.stp (h : Gd n L es) {t : Nat} (ht : (t : Int) + 1 ≤ L) {v : Int} (hv : InR n v) {S : Nat → List PE → Option Nat} {es' : List Ed} (hr : Rs n L es t v S es') :
  Stp n (fun s c => S s ((uv es).filter (crB c)) ≠ Option.none) (Pp n L es) (Pp n L es') t v := by
 have hmt : min (t : Int) L = t := by omega
 have hmt1 : min ((t + 1 : Nat) : Int) L = (t : Int) + 1 := by omega
 have tcl : ∀ {x : Int}, InR n x → (Cl (Pp n L es t) x v ↔ Cn n (uv (fr t es)) x v) := by
  intro x hx; unfold Pp; rw [hmt]; rfl
 -- the step that raises e, given the partitions of all tiers behind it
 have key : ∀ (e : Ed), e ∈ es → crB (treeL n es t v) (e.1, e.2.1) = true → (treeL n es t v).length = (treeL n es ((t : Int) + 1) v).length →
   (∀ s : Int, s ≤ L → s ≤ t → partOf n (uv (fr s es')) = partOf n (uv (fr s es))) → (∀ s : Int, s ≤ L → (t : Int) < s → partOf n (uv (fr s es')) = joinL (partOf n (uv (fr s es))) e.1 e.2.1) →
   Stp n (fun s c => S s ((uv es).filter (crB c)) ≠ Option.none) (Pp n L es) (Pp n L es') t v := by
  intro e he hc hl hlo hhi
  obtain ⟨i1, i2⟩ := h.in1 he
  obtain ⟨nc, hx⟩ := h.cross ht hv hl he hc
  have up : ∀ {a : Int}, InR n a → Cn n (uv (fr t es)) a v → ∀ s : Nat, t ≤ s → Cl (Pp n L es s) a v := by
   intro a ha hca s hs
   exact h.up (s := t) (t := min (s : Int) L) (by omega) (by omega) ha hv hca
  have lo' : ∀ s, s ≤ t → Pp n L es' s = Pp n L es s := fun s hs => hlo _ (by omega) (by omega)
  have hi' : ∀ s, t < s → Pp n L es' s = joinL (Pp n L es s) e.1 e.2.1 := fun s hs => hhi _ (by omega) (by omega)
  have ncl : ¬ Cl (Pp n L es t) e.1 e.2.1 := by
   intro hcl
   refine nc ?_
   unfold Pp at hcl; rw [hmt] at hcl
   exact h.up (s := t) (by omega) ht i1 i2 hcl
  rcases hx with ⟨a, b⟩ | ⟨a, b⟩
  · exact .inr ⟨e.1, e.2.1, ⟨i1, i2, fun s => len_Pp s, lo', hi'⟩, up i1 a, ncl⟩
  · exact .inr ⟨e.2.1, e.1, ⟨i2, i1, fun s => len_Pp s, lo', fun s hs => by rw [hi' s hs, joinL_comm]⟩, up i2 a, fun hcl => ncl hcl.symm⟩
 cases hr with
 | grown hl =>
  refine .inl ⟨fun _ => rfl, fun _ => ?_⟩
  refine Classical.byContradiction fun hn => hl ?_
  refine congrArg List.length ((h.tree_le (t := t) (by omega) ht hv).eq_of_length_le ?_)
  refine Nat.le_of_eq (congrArg List.length (Eq.symm ?_))
  rw [h.tree (by omega) hv, h.tree ht hv]
  unfold cls
  rw [len_partOf, len_partOf]
  refine congrArg _ (List.filter_congr fun i hi => ?_)
  have hir : InR n (i : Int) := ⟨by omega, by have := List.mem_range.1 hi; omega⟩
  rw [decide_eq_decide]
  constructor
  ·
   intro hc
   exact h.up (s := t) (by omega) ht hir hv hc
  ·
   intro hc
   refine Decidable.byContradiction fun hnc => hn ⟨i, hir, ?_, ?_⟩
   · unfold Pp Cl; rw [hmt1]; exact hc.symm
   · unfold Pp Cl; rw [hmt]; exact fun e => hnc e.symm
 | none hl hs =>
  refine .inl ⟨fun _ => rfl, fun hF => absurd ?_ hF⟩
  have e1 : cls (Pp n L es t) v = treeL n es t v := by
   rw [h.tree (by omega) hv]; unfold Pp; rw [hmt]
  have e2 : (uv es).filter (crB (treeL n es t v)) = uv (cutL es (treeL n es t v)) := by
   unfold uv cutL; rw [List.filter_map]; rfl
  simp only [e1, e2]; exact hs
 | one hl i e hi hc ht' =>
  obtain ⟨nc, _⟩ := h.cross ht hv hl (List.mem_of_getElem? hi) hc
  have htier := h.tier ht (List.mem_of_getElem? hi) nc
  refine key e (List.mem_of_getElem? hi) hc hl (fun s hs hst => ?_) (fun s hs hst => ?_)
  · rw [fr_set_out hi (by omega) (.inr (by omega))]
  · exact pa_set h.tb.may hi (by omega) (by omega)
 | two hl i e hi hc h0 hcn j d hj hij hd hg hdt =>
  obtain ⟨i1, i2⟩ := h.in1 (List.mem_of_getElem? hi)
  have hi' : (es.set j (d.1, d.2.1, 0))[i]? = some e := by rw [List.getElem?_set_ne hij]; exact hi
  have tb1 := h.tb.set hj (t := 0) (by omega)
  refine key e (List.mem_of_getElem? hi) hc hl (fun s hs hst => ?_) (fun s hs hst => ?_)
  · rw [fr_set_out hi' (.inl h0) (.inr (by omega)), fr_set_out hj (.inr (by omega)) (.inl rfl)]
  ·
   rw [pa_set tb1.may hi' (by omega) (by omega)]
   by_cases hsd : s < d.2.2
   · rw [fr_set_out hj (.inr hsd) (.inl rfl)]
   ·
    have hfs := fst_low h.tb h.fs hs
    have hcs : Cn n (uv (fr s es)) e.1 e.2.1 := (cn_low h.tb h.fs hs i1 i2).2 ⟨hcn, fun x hx => by have := hg x hx; omega⟩
    have e1 : joinL (partOf n (uv (fr s es))) e.1 e.2.1 = partOf n (uv (fr s es)) := join_id hcs
    have e2 := partOf_snoc n (uv (fr s (es.set j (d.1, d.2.1, 0)))) (e.1, e.2.1)
    rw [e1]
    rw [← e2]
    have hm1 : MayL n (uv (fr s (es.set j (d.1, d.2.1, 0))) ++ [(e.1, e.2.1)]) := by
     intro x hx
     rcases List.mem_append.1 hx with hx | hx
     · exact may_fr tb1.may x hx
     · simp at hx; subst hx; exact ⟨i1, i2⟩
    have old : ∀ x : Ed, x ∈ es → 1 ≤ x.2.2 → x.2.2 ≤ s → x ≠ d → (x.1, x.2.1) ∈ uv (fr s (es.set j (d.1, d.2.1, 0))) ++ [(e.1, e.2.1)] := by
     intro x hx h1 h2 hne
     refine List.mem_append_left _ ((mem_set_del h.tb hj _).2 ⟨uv_mem.2 ⟨x, mem_fr.2 ⟨hx, h1, h2⟩, rfl⟩, fun hxe => hne ?_⟩)
     injection hxe with k1 k2
     exact h.tb.ends hx (List.mem_of_getElem? hj) k1 k2
    refine partOf_ext hfs.1 hm1 (fun x hx => ?_) (fun x hx => ?_)
    ·
     obtain ⟨y, hy, rfl⟩ := uv_mem.1 hx
     obtain ⟨y1, y2, y3⟩ := mem_fr.1 hy
     by_cases hyd : y = d
     ·
      subst hyd
      refine sep_split (h.tb.fr L) h.fs i1 i2 hd (g (partOf n (uv (fr s (es.set j (y.1, y.2.1, 0))) ++ [(e.1, e.2.1)]))) (fun z hz hne => ?_) ?_
      ·
       obtain ⟨z1, z2, z3⟩ := mem_fr.1 (mem_seps.1 hz).2.1
       exact Cn.edge hm1 (old z z1 z2 (by have := hg z hz; omega) hne)
      · exact Cn.edge hm1 (e := (e.1, e.2.1)) (by simp)
     · exact Cn.edge hm1 (old y y1 y2 y3 hyd)
    ·
     rcases List.mem_append.1 hx with hx | hx
     · exact Cn.edge hfs.1 ((mem_set_del h.tb hj _).1 hx).1
     · simp at hx; subst hx; exact hcs
end
end Tp
namespace Tp
open Pt
set_option linter.unusedVariables false
section
variable {n : Nat} {L : Int} {es : List Ed}
/-! ## Lesser tiers -/
def lowE (k : Int) (e : Ed) : Ed := (e.1, e.2.1, if e.2.2 ≤ k then e.2.2 else 0)
def lowM (k : Int) (es : List Ed) : List Ed := es.map (lowE k)
theorem fr_low {k s : Int} (hs : s ≤ k) : fr s (lowM k es) = fr s es := by
 unfold fr lowM
 induction es with
 | nil => rfl
 | cons e l ih =>
  rw [List.map_cons, List.filter_cons, List.filter_cons, ih]
  by_cases h : e.2.2 ≤ k
  ·
   have : lowE k e = e := by unfold lowE; rw [if_pos h]
   rw [this]
  ·
   have h1 : (decide (1 ≤ e.2.2) && decide (e.2.2 ≤ s)) = false := by simp; omega
   have h2 : (decide (1 ≤ (lowE k e).2.2) && decide ((lowE k e).2.2 ≤ s)) = false := by unfold lowE; simp [h]
   rw [h1, h2]; rfl
theorem uv_low (k : Int) : uv (lowM k es) = uv es := by unfold uv lowM; rw [List.map_map]; rfl
theorem cut_low (k : Int) (c : List Int) : cutL (lowM k es) c = lowM k (cutL es c) := by
 unfold cutL lowM; rw [List.filter_map]; rfl
theorem tree_low {k s : Int} (hs : s ≤ k) (v : Int) : treeL n (lowM k es) s v = treeL n es s v := by unfold treeL; rw [fr_low hs]
theorem map_modify {α β : Type} (f : α → β) (g1 : α → α) (g2 : β → β) (h : ∀ a, f (g1 a) = g2 (f a)) (l : List α) (i : Nat) : (l.modify i g1).map f = (l.map f).modify i g2 := by
 apply List.ext_getElem?
 intro j
 rw [List.getElem?_map, List.getElem?_modify, List.getElem?_modify, List.getElem?_map]
 cases l[j]? with
 | none => rfl
 | some a =>
  by_cases e : i = j
  · subst e; simp [h]
  · simp [e]
theorem map_erase {α β : Type} (f : α → β) (l : List α) (i : Nat) : (l.eraseIdx i).map f = (l.map f).eraseIdx i := by
 induction l generalizing i with
 | nil => rfl
 | cons a l ih =>
  cases i with
  | zero => rfl
  | succ i => simp [ih]
theorem setT_low {k t : Int} (ht : t ≤ k) (u v : Int) : lowM k (setT es u v t) = setT (lowM k es) u v t := by
 unfold setT
 rw [uv_low]
 cases fiP (uv es) u v with
 | none => rfl
 | some i =>
  unfold lowM
  exact map_modify _ _ _ (fun e => by unfold lowE; simp [ht]) es i
theorem low_set {k : Int} {i : Nat} {e : Ed} (hi : es[i]? = some e) {t : Int} (h1 : e.2.2 = 0 ∨ k < e.2.2) (h2 : t = 0 ∨ k < t) (hk : 0 ≤ k) : lowM k (es.set i (e.1, e.2.1, t)) = lowM k es := by
 unfold lowM
 apply List.ext_getElem?
 intro j
 rw [List.getElem?_map, List.getElem?_map]
 by_cases e1 : i = j
 ·
  subst e1
  have hil : i < es.length := (List.getElem?_eq_some_iff.1 hi).1
  rw [List.getElem?_set_self hil, hi]
  simp only [Option.map_some, lowE]
  have z1 : (if e.2.2 ≤ k then e.2.2 else 0) = 0 := by
   rcases h1 with h | h
   · rw [h]; simp
   · rw [if_neg (by omega)]
  have z2 : (if t ≤ k then t else 0) = 0 := by
   rcases h2 with h | h
   · rw [h]; simp
   · rw [if_neg (by omega)]
  rw [z1, z2]
 · rw [List.getElem?_set_ne e1]
theorem remF_low (h : Gd n L es) {k : Int} (hk : k ≤ L) (hk0 : 0 ≤ k) {e : Ed} (he : e ∈ es) : lowM k (remF n L es e) = remF n k (lowM k es) (lowE k e) := by
 obtain ⟨i1, i2⟩ := h.in1 he
 have h0 := (h.tb.1 e he).2.2.2.1
 unfold remF
 rw [fr_low (Int.le_refl k)]
 show _ = if (if e.2.2 ≤ k then e.2.2 else 0) = 0 then (match gre (seps n (fr k es) e.1 e.2.1) with | some d => setT (lowM k es) d.1 d.2.1 0 | none => lowM k es) else lowM k es
 have noK : ¬ Cn n (uv (fr k es)) e.1 e.2.1 → gre (seps n (fr k es) e.1 e.2.1) = none := by
  intro hc
  have : seps n (fr k es) e.1 e.2.1 = [] := by unfold seps; rw [if_neg]; exact hc
  rw [this]; rfl
 by_cases hz : e.2.2 = 0
 ·
  rw [if_pos hz, if_pos (by rw [hz]; simp)]
  by_cases hc : Cn n (uv (fr k es)) e.1 e.2.1
  ·
   have hg : gre (seps n (fr k es) e.1 e.2.1) = gre (seps n (fr L es) e.1 e.2.1) := gre_ext (seps_low h.tb h.fs hk i1 i2 hc)
   rw [hg]
   cases gre (seps n (fr L es) e.1 e.2.1) with
   | none => rfl
   | some d => exact setT_low hk0 _ _
  ·
   rw [noK hc]
   cases hg : gre (seps n (fr L es) e.1 e.2.1) with
   | none => rfl
   | some d =>
    have hd := (gre_spec hg).1
    obtain ⟨hcL, d1, _⟩ := mem_seps.1 hd
    obtain ⟨d2, d3, d4⟩ := mem_fr.1 d1
    obtain ⟨j, hj⟩ := List.mem_iff_getElem?.1 d2
    have hdk : k < d.2.2 := by
     refine Decidable.byContradiction fun hn => hc ?_
     exact (cn_low h.tb h.fs hk i1 i2).2 ⟨hcL, fun x hx => by have := gre_tier hg hx; omega⟩
    show lowM k (setT es d.1 d.2.1 0) = lowM k es
    rw [h.tb.setT hj]
    exact low_set hj (.inr hdk) (.inl rfl) hk0
 ·
  rw [if_neg hz]
  by_cases hek : e.2.2 ≤ k
  · rw [if_neg (by rw [if_pos hek]; exact hz)]
  ·
   rw [if_pos (by rw [if_neg hek])]
   have heL : e ∈ fr L es := mem_fr.2 ⟨he, by omega, h.tr e he⟩
   have hc : ¬ Cn n (uv (fr k es)) e.1 e.2.1 := by
    intro hc
    have hL := ((cn_low h.tb h.fs hk i1 i2).1 hc).2
    obtain ⟨i, hi⟩ := List.mem_iff_getElem?.1 heL
    have hu : (uv (fr L es))[i]? = some (e.1, e.2.1) := by simp [uv, hi]
    have hb := (h.fs.bridge hu).2
    have : e ∈ seps n (fr L es) e.1 e.2.1 := by
     refine mem_seps.2 ⟨Cn.edge h.fs.1 (uv_mem.2 ⟨e, heL, rfl⟩), heL, fun q => hb ?_⟩
     unfold Cn at *
     rw [← but_erase (h.tb.fr L) hi]; exact q
    have := hL e this
    omega
   rw [noK hc]
theorem raised_lt (h : Gd n L es) {k : Int} (hk : k ≤ L) {t : Nat} (ht : (t : Int) + 1 ≤ k) (S : Nat → List PE → Option Nat) (v : Int) : lowM k (raisedF n L S es t v) = raisedF n k S (lowM k es) t v := by
 unfold raisedF
 rw [tree_low (by omega), tree_low ht, cut_low, uv_low]
 by_cases hl : (treeL n es t v).length = (treeL n es ((t : Int) + 1) v).length
 case neg => rw [if_neg hl, if_neg hl]
 rw [if_pos hl, if_pos hl]
 cases S t (uv (cutL es (treeL n es t v))) with
 | none => rfl
 | some i =>
  dsimp only
  have : (lowM k (cutL es (treeL n es t v)))[i]? = (cutL es (treeL n es t v))[i]?.map (lowE k) := by unfold lowM; rw [List.getElem?_map]
  rw [this]
  cases hce : (cutL es (treeL n es t v))[i]? with
  | none => rfl
  | some e =>
   obtain ⟨he, _⟩ := mem_cut.1 (List.mem_of_getElem? hce)
   show lowM k (setT (remF n L es e) e.1 e.2.1 ((t : Int) + 1)) = setT (remF n k (lowM k es) (lowE k e)) e.1 e.2.1 ((t : Int) + 1)
   rw [setT_low ht, remF_low h hk (by omega) he]
theorem raised_ge (h : Gd n L es) {k : Int} (hk0 : 0 ≤ k) {t : Nat} (htk : k ≤ t) (ht : (t : Int) + 1 ≤ L) {S : Nat → List PE → Option Nat} (hS : SOk S) {v : Int} (hv : InR n v) : lowM k (raisedF n L S es t v) = lowM k es := by
 have hr := h.rs ht hv hS
 generalize raisedF n L S es t v = es' at hr
 cases hr with
 | grown _ => rfl
 | none _ _ => rfl
 | one hl i e hi hc _ =>
  obtain ⟨nc, _⟩ := h.cross ht hv hl (List.mem_of_getElem? hi) hc
  have := h.tier ht (List.mem_of_getElem? hi) nc
  exact low_set hi (by omega) (.inr (by omega)) hk0
 | two hl i e hi hc h0 hcn j d hj hij hd hg hdt =>
  have hi' : (es.set j (d.1, d.2.1, 0))[i]? = some e := by rw [List.getElem?_set_ne hij]; exact hi
  have q1 := low_set (k := k) hi' (t := (t : Int) + 1) (.inl h0) (.inr (by omega)) hk0
  have q2 := low_set (k := k) hj (t := 0) (.inr (by omega)) (.inl rfl) hk0
  exact q1.trans q2
/-! ## Mending -/
def mendF (n : Nat) (L : Int) (S : Nat → List PE → Option Nat) (es : List Ed) (u v : Int) : Nat → List Ed
 | 0 => es
 | T + 1 => raisedF n L S (raisedF n L S (mendF n L S es u v T) T u) T v
theorem mend_succ (S : Nat → List PE → Option Nat) (u v : Int) (T : Nat) : mendF n L S es u v (T + 1) = raisedF n L S (raisedF n L S (mendF n L S es u v T) T u) T v := by
 rw [mendF]
theorem Gd.raised (h : Gd n L es) (hL : L ≤ 16) {t : Nat} (ht : (t : Int) + 1 ≤ L) {v : Int} (hv : InR n v) {S : Nat → List PE → Option Nat} (hS : SOk S) : Gd n L (raisedF n L S es t v) := (h.rs ht hv hS).gd h hL ht hv
theorem Gd.mend (h : Gd n L es) (hL : L ≤ 16) {S : Nat → List PE → Option Nat} (hS : SOk S) {u v : Int} (hu : InR n u) (hv : InR n v) (T : Nat) (hT : (T : Int) ≤ L) : Gd n L (mendF n L S es u v T) := by
 induction T with
 | zero => exact h
 | succ T ih =>
  rw [mend_succ]
  have := ih (by omega)
  exact (this.raised hL (by omega) hu hS).raised hL (by omega) hv hS
theorem raised_uv (h : Gd n L es) {t : Nat} (ht : (t : Int) + 1 ≤ L) {v : Int} (hv : InR n v) {S : Nat → List PE → Option Nat} (hS : SOk S) : uv (raisedF n L S es t v) = uv es := by
 have hr := h.rs ht hv hS
 generalize raisedF n L S es t v = es' at hr
 cases hr with
 | grown _ => rfl
 | none _ _ => rfl
 | one hl i e hi hc _ => exact uv_set hi _
 | two hl i e hi hc h0 hcn j d hj hij hd hg hdt =>
  have hi' : (es.set j (d.1, d.2.1, 0))[i]? = some e := by rw [List.getElem?_set_ne hij]; exact hi
  rw [uv_set hi', uv_set hj]
theorem mend_low {es2 : List Ed} {S S2 : Nat → List PE → Option Nat} (hS : SOk S) (hS2 : SOk S2) (hL : L ≤ 16) {k : Nat} (hk : (k : Int) ≤ L) (hSS : ∀ t, t < k → S t = S2 t) {u v : Int} (hu : InR n u) (hv : InR n v)
  (h : Gd n L es) (h2 : Gd n L es2) (he : lowM k es = lowM k es2) (T : Nat) (hT : (T : Int) ≤ L) : lowM k (mendF n L S es u v T) = lowM k (mendF n L S2 es2 u v T) := by
 induction T with
 | zero => exact he
 | succ T ih =>
  have ih := ih (by omega)
  have g1 := h.mend hL hS hu hv T (by omega)
  have g2 := h2.mend hL hS2 hu hv T (by omega)
  have g1' := g1.raised hL (by omega) hu hS (t := T)
  have g2' := g2.raised hL (by omega) hu hS2 (t := T)
  rw [mend_succ, mend_succ]
  have one : ∀ {a b : List Ed}, Gd n L a → Gd n L b → lowM k a = lowM k b → ∀ {w : Int}, InR n w → lowM k (raisedF n L S a T w) = lowM k (raisedF n L S2 b T w) := by
   intro a b ga gb hab w hw
   rcases Nat.lt_or_ge T k with hlt | hge
   ·
    rw [raised_lt ga hk (by omega), raised_lt gb hk (by omega), hab]
    unfold raisedF
    rw [hSS T hlt]
   · rw [raised_ge ga (by omega) (by omega) (by omega) hS hw, raised_ge gb (by omega) (by omega) (by omega) hS2 hw, hab]
  exact one g1' g2' (one g1 g2 ih hu) hv
/-! ## An edge that comes, or goes -/
def newE (u v : Int) : Ed := (min u v, max u v, 0)
def addF (es : List Ed) (u v : Int) : List Ed := es.takeWhile (fun e => lsB e (newE u v)) ++ newE u v :: es.dropWhile (fun e => lsB e (newE u v))
theorem add_low {k : Int} (u v : Int) : lowM k (addF es u v) = addF (lowM k es) u v := by
 unfold addF lowM
 have e1 : lowE k (newE u v) = newE u v := by unfold lowE newE; simp
 rw [List.map_append, List.map_cons, e1]
 have e2 : (fun e => lsB e (newE u v)) ∘ lowE k = fun e => lsB e (newE u v) := rfl
 rw [List.takeWhile_map, List.dropWhile_map, e2]
theorem del_low {k : Int} (i : Nat) : lowM k (es.eraseIdx i) = (lowM k es).eraseIdx i := by
 exact map_erase _ es i
theorem lsB_iff (a b : Ed) : lsB a b = true ↔ Lt a b := by unfold lsB Lt; simp
theorem fi_none (h : Tb n es) {u v : Int} (hf : fiP (uv es) u v = none) : ∀ e ∈ es, ¬ (e.1 = min u v ∧ e.2.1 = max u v) := by
 intro e he ⟨h1, h2⟩
 have hx : (e.1, e.2.1) ∈ uv es := uv_mem.2 ⟨e, he, rfl⟩
 have := List.findIdx?_eq_none_iff.1 hf _ hx
 simp [fiB] at this
 rcases Int.le_total u v with hle | hle
 ·
  rw [Int.min_eq_left hle] at h1; rw [Int.max_eq_right hle] at h2
  exact this.1 h1 h2
 ·
  rw [Int.min_eq_right hle] at h1; rw [Int.max_eq_left hle] at h2
  exact this.2 h1 h2
theorem mem_add {u v : Int} (e : Ed) : e ∈ addF es u v ↔ e ∈ es ∨ e = newE u v := by
 unfold addF
 rw [List.mem_append, List.mem_cons]
 have : e ∈ es ↔ e ∈ es.takeWhile (fun e => lsB e (newE u v)) ∨ e ∈ es.dropWhile (fun e => lsB e (newE u v)) := by
  rw [← List.mem_append, List.takeWhile_append_dropWhile]
 rw [this]
 constructor
 ·
  rintro (h | h | h)
  · exact .inl (.inl h)
  · exact .inr h
  · exact .inl (.inr h)
 ·
  rintro ((h | h) | h)
  · exact .inl h
  · exact .inr (.inr h)
  · exact .inr (.inl h)
theorem dropWhile_gt {d : Ed} {l : List Ed} (hp : l.Pairwise Lt) (hne : ∀ e ∈ l, ¬ (e.1 = d.1 ∧ e.2.1 = d.2.1)) : ∀ e ∈ l.dropWhile (fun e => lsB e d), Lt d e := by
 induction l with
 | nil => intro e he; simp at he
 | cons a l ih =>
  rw [List.pairwise_cons] at hp
  rw [List.dropWhile_cons]
  by_cases hc : lsB a d = true
  ·
   rw [if_pos hc]
   exact ih hp.2 (fun e he => hne e (List.mem_cons_of_mem _ he))
  ·
   rw [if_neg hc]
   have h1 := hne a (by simp)
   have h2 : ¬ Lt a d := fun h => hc ((lsB_iff _ _).2 h)
   have h3 : Lt d a := by unfold Lt at *; omega
   intro e he
   rcases List.mem_cons.1 he with rfl | he
   · exact h3
   ·
    have := hp.1 e he
    unfold Lt at *; omega
theorem takeWhile_all {α : Type} {p : α → Bool} {l : List α} : ∀ e ∈ l.takeWhile p, p e = true := by
 induction l with
 | nil => intro e he; simp at he
 | cons a l ih =>
  intro e he
  rw [List.takeWhile_cons] at he
  by_cases h : p a = true
  ·
   rw [if_pos h] at he
   rcases List.mem_cons.1 he with rfl | he
   · exact h
   · exact ih e he
  · rw [if_neg h] at he; simp at he
theorem Tb.add (h : Tb n es) {u v : Int} (hu : InR n u) (hv : InR n v) (huv : u ≠ v) (hf : fiP (uv es) u v = none) : Tb n (addF es u v) := by
 constructor
 ·
  intro e he
  rcases (mem_add e).1 he with he | rfl
  · exact h.1 e he
  · unfold EOk newE InR at *; simp; omega
 ·
  unfold addF
  have hp := h.2
  rw [← List.takeWhile_append_dropWhile (p := fun e => lsB e (newE u v)) (l := es)] at hp
  rw [List.pairwise_append] at hp ⊢
  have hlt : ∀ e ∈ es.takeWhile (fun e => lsB e (newE u v)), Lt e (newE u v) := fun e he => (lsB_iff _ _).1 (takeWhile_all e he)
  refine ⟨hp.1, ?_, ?_⟩
  ·
   rw [List.pairwise_cons]
   exact ⟨dropWhile_gt h.2 (fi_none h hf), hp.2.1⟩
  ·
   intro a ha b hb
   rcases List.mem_cons.1 hb with rfl | hb
   · exact hlt a ha
   · exact hp.2.2 a ha b hb
theorem fr_add (s : Int) (u v : Int) : fr s (addF es u v) = fr s es := by
 unfold addF fr
 rw [List.filter_append, List.filter_cons_of_neg (by simp [newE]), ← List.filter_append, List.takeWhile_append_dropWhile]
theorem Gd.add (h : Gd n L es) {u v : Int} (hu : InR n u) (hv : InR n v) (huv : u ≠ v) (hf : fiP (uv es) u v = none) (hL : 0 ≤ L) : Gd n L (addF es u v) := by
 refine ⟨h.tb.add hu hv huv hf, ?_, ?_⟩
 ·
  intro e he
  rcases (mem_add e).1 he with he | rfl
  · exact h.tr e he
  · exact hL
 · rw [fr_add]; exact h.fs
theorem Gd.del (h : Gd n L es) (i : Nat) : Gd n L (es.eraseIdx i) := by
 have hsub : (es.eraseIdx i).Sublist es := List.eraseIdx_sublist es i
 have tb := h.tb.sub hsub
 refine ⟨tb, fun e he => h.tr e (hsub.subset he), fst_sub h.fs (uv_fr_nodup tb L) (fun x hx => ?_)⟩
 obtain ⟨e, he, rfl⟩ := uv_mem.1 hx
 obtain ⟨h1, h2⟩ := mem_fr.1 he
 exact uv_mem.2 ⟨e, mem_fr.2 ⟨hsub.subset h1, h2⟩, rfl⟩
def insF (n : Nat) (L : Nat) (S : Nat → List PE → Option Nat) (es : List Ed) (u v : Int) : List Ed :=
 if InR n u ∧ InR n v ∧ u ≠ v ∧ fiP (uv es) u v = none then mendF n L S (addF es u v) u v L else es
def delF (n : Nat) (L : Nat) (S : Nat → List PE → Option Nat) (es : List Ed) (u v : Int) : List Ed :=
 if InR n u ∧ InR n v then (match fiP (uv es) u v with | some i => mendF n L S (es.eraseIdx i) u v L | none => es) else es
end
instance (n : Nat) (v : Int) : Decidable (InR n v) := by unfold InR; infer_instance
end Tp
namespace Tp
open Pt
set_option linter.unusedVariables false
section
variable {n : Nat} {L : Nat} {es : List Ed} {S : Nat → List PE → Option Nat}
def Fd (S : Nat → List PE → Option Nat) (ps : List PE) (s : Nat) (c : List Int) : Prop := S s (ps.filter (crB c)) ≠ none
def InvG (n L : Nat) (S : Nat → List PE → Option Nat) (es : List Ed) : Prop := Inv n (Fd S (uv es)) (Pp n L es) L
theorem mend_uv (h : Gd n L es) (hL : L ≤ 16) (hS : SOk S) {u v : Int} (hu : InR n u) (hv : InR n v) (T : Nat) (hT : T ≤ L) : uv (mendF n L S es u v T) = uv es := by
 induction T with
 | zero => rfl
 | succ T ih =>
  have g := h.mend (by omega) hS hu hv T (by omega)
  have g1 := g.raised (by omega) (by omega) hu hS (t := T)
  rw [mend_succ, raised_uv g1 (by omega) hv hS, raised_uv g (by omega) hu hS, ih (by omega)]
theorem mend_sofar (h : Gd n L es) (hL : L ≤ 16) (hS : SOk S) {u v : Int} (hu : InR n u) (hv : InR n v) (hf : ∀ s, Far n (Pp n L es) (Fd S (uv es)) u v s) (T : Nat) (hT : T ≤ L) :
  Sofar n (Fd S (uv es)) (Pp n L (mendF n L S es u v T)) u v T := by
 induction T with
 | zero => exact ⟨hf, fun s hs => absurd hs (by omega)⟩
 | succ T ih =>
  have g := h.mend (by omega) hS hu hv T (by omega)
  have g1 := g.raised (by omega) (by omega) hu hS (t := T)
  have u0 := mend_uv h hL hS hu hv T (by omega)
  have u1 : uv (raisedF n L S (mendF n L S es u v T) T u) = uv es := by rw [raised_uv g (by omega) hu hS, u0]
  have s1 := (g.rs (by omega) hu hS (t := T)).stp g (by omega) hu
  have s2 := (g1.rs (by omega) hv hS (t := T)).stp g1 (by omega) hv
  rw [u0] at s1
  rw [u1] at s2
  rw [mend_succ]
  exact (ih (by omega)).step hu hv s1 s2
theorem mend_inv (h : Gd n L es) (hL : L ≤ 16) (hS : SOk S) {u v : Int} (hu : InR n u) (hv : InR n v) (hf : ∀ s, Far n (Pp n L es) (Fd S (uv es)) u v s) : InvG n L S (mendF n L S es u v L) := by
 have hs := mend_sofar h hL hS hu hv hf L (Nat.le_refl _)
 have g := h.mend (by omega) hS hu hv L (Int.le_refl _)
 unfold InvG
 rw [mend_uv h hL hS hu hv L (Nat.le_refl _)]
 refine hs.inv hu hv fun s x y hx hy hc => ?_
 exact g.up (s := min (s : Int) L) (t := min ((s + 1 : Nat) : Int) L) (by omega) (by omega) hx hy hc
theorem filter_far {ps : List PE} {c : List Int} {x : PE} (h1 : x.1 ∉ c) (h2 : x.2 ∉ c) : crB c x = false := by unfold crB; simp [h1, h2]
theorem min_max (u v : Int) : (min u v = u ∧ max u v = v) ∨ (min u v = v ∧ max u v = u) := by omega
theorem inv_add (h : Gd n L es) (hL : L ≤ 16) (hS : SOk S) (hSL : ∀ t ps, L ≤ t → S t ps = none) (hi : InvG n L S es) {u v : Int} (hu : InR n u) (hv : InR n v) (huv : u ≠ v) (hf : fiP (uv es) u v = none) :
  InvG n L S (mendF n L S (addF es u v) u v L) := by
 refine mend_inv (h.add hu hv huv hf (by omega)) hL hS hu hv fun s x hx h1 h2 h3 => ?_
 have e1 : ∀ s, Pp n L (addF es u v) s = Pp n L es s := fun s => by unfold Pp; rw [fr_add]
 rw [e1] at h1 h2 h3
 have hsL : s < L := by
  refine Decidable.byContradiction fun hn => h3 ?_
  exact hSL _ _ (by omega)
 have hcu : u ∉ cls (Pp n L es s) x := fun hm => h1 (mem_cls.1 hm).2.symm
 have hcv : v ∉ cls (Pp n L es s) x := fun hm => h2 (mem_cls.1 hm).2.symm
 have e2 : (uv (addF es u v)).filter (crB (cls (Pp n L es s) x)) = (uv es).filter (crB (cls (Pp n L es s) x)) := by
  unfold addF uv
  have hnew : crB (cls (Pp n L es s) x) ((newE u v).1, (newE u v).2.1) = false := by
   refine filter_far (ps := []) ?_ ?_
   ·
    show min u v ∉ _
    rcases min_max u v with ⟨h, _⟩ | ⟨h, _⟩ <;> rw [h] <;> assumption
   ·
    show max u v ∉ _
    rcases min_max u v with ⟨_, h⟩ | ⟨_, h⟩ <;> rw [h] <;> assumption
  rw [List.map_append, List.map_cons, List.filter_append, List.filter_cons_of_neg (by rw [hnew]; simp), ← List.filter_append, ← List.map_append, List.takeWhile_append_dropWhile]
 unfold Fd at h3
 rw [e2] at h3
 obtain ⟨y, hy, c1, c2⟩ := hi s hsL x hx h3
 exact ⟨y, hy, by rw [e1]; exact c1, by rw [e1]; exact c2⟩
theorem filter_erase {α : Type} (p : α → Bool) (l : List α) (i : Nat) (h : ∀ a, l[i]? = some a → p a = false) : (l.eraseIdx i).filter p = l.filter p := by
 induction l generalizing i with
 | nil => rfl
 | cons a l ih =>
  cases i with
  | zero => simp [h a rfl]
  | succ i =>
   rw [List.eraseIdx_cons_succ, List.filter_cons, List.filter_cons, ih i (fun b hb => h b (by simpa using hb))]
theorem uv_erase (i : Nat) : uv (es.eraseIdx i) = (uv es).eraseIdx i := map_erase _ es i
theorem pp_del (h : Gd n L es) {i : Nat} {e : Ed} (hi : es[i]? = some e) (s : Nat) : Pp n L es s = Pp n L (es.eraseIdx i) s ∨ Pp n L es s = joinL (Pp n L (es.eraseIdx i) s) e.1 e.2.1 := by
 have hmem : ∀ y : Ed, y ∈ es ↔ y ∈ es.eraseIdx i ∨ y = e := by
  intro y
  rw [mem_erase_iff hi y, List.mem_append, List.mem_singleton]
 unfold Pp
 generalize min (s : Int) (L : Int) = s'
 have hm := may_fr (t := s') h.tb.may
 by_cases he : 1 ≤ e.2.2 ∧ e.2.2 ≤ s'
 ·
  right
  have h2 := partOf_snoc n (uv (fr s' (es.eraseIdx i))) (e.1, e.2.1)
  rw [← h2]
  refine (partOf_same hm fun x => ?_).symm
  rw [List.mem_append, List.mem_singleton, uv_mem, uv_mem]
  constructor
  ·
   rintro ⟨y, hy, rfl⟩
   obtain ⟨y1, y2⟩ := mem_fr.1 hy
   rcases (hmem y).1 y1 with y1 | rfl
   · exact .inl ⟨y, mem_fr.2 ⟨y1, y2⟩, rfl⟩
   · exact .inr rfl
  ·
   rintro (⟨y, hy, rfl⟩ | rfl)
   ·
    obtain ⟨y1, y2⟩ := mem_fr.1 hy
    exact ⟨y, mem_fr.2 ⟨(hmem y).2 (.inl y1), y2⟩, rfl⟩
   · exact ⟨e, mem_fr.2 ⟨List.mem_of_getElem? hi, he⟩, rfl⟩
 ·
  left
  refine (partOf_same hm fun x => ?_).symm
  rw [uv_mem, uv_mem]
  constructor
  ·
   rintro ⟨y, hy, rfl⟩
   obtain ⟨y1, y2⟩ := mem_fr.1 hy
   rcases (hmem y).1 y1 with y1 | rfl
   · exact ⟨y, mem_fr.2 ⟨y1, y2⟩, rfl⟩
   · exact absurd y2 he
  ·
   rintro ⟨y, hy, rfl⟩
   obtain ⟨y1, y2⟩ := mem_fr.1 hy
   exact ⟨y, mem_fr.2 ⟨(hmem y).2 (.inl y1), y2⟩, rfl⟩
theorem inv_del (h : Gd n L es) (hL : L ≤ 16) (hS : SOk S) (hSL : ∀ t ps, L ≤ t → S t ps = none) (hi : InvG n L S es) {u v : Int} (hu : InR n u) (hv : InR n v) {i : Nat} (hf : fiP (uv es) u v = some i) :
  InvG n L S (mendF n L S (es.eraseIdx i) u v L) := by
 obtain ⟨p, hp, hpe⟩ := fiP_some hf
 obtain ⟨e, he, hep⟩ : ∃ e, es[i]? = some e ∧ (e.1, e.2.1) = p := by
  unfold uv at hp; rw [List.getElem?_map] at hp
  cases hl : es[i]? with
  | none => rw [hl] at hp; simp at hp
  | some e => rw [hl] at hp; simp at hp; exact ⟨e, rfl, hp⟩
 subst hep
 have hends : (e.1 = u ∧ e.2.1 = v) ∨ (e.1 = v ∧ e.2.1 = u) := by simpa [fiB] using hpe
 obtain ⟨i1, i2⟩ := h.in1 (List.mem_of_getElem? he)
 have hd := h.del i
 -- trees without u and v are as they were
 have key : ∀ s x, InR n x → ¬ Cl (Pp n L (es.eraseIdx i) s) x u → ¬ Cl (Pp n L (es.eraseIdx i) s) x v → cls (Pp n L es s) x = cls (Pp n L (es.eraseIdx i) s) x ∧ ∀ y, InR n y → (Cl (Pp n L es s) x y ↔ Cl (Pp n L (es.eraseIdx i) s) x y) := by
  intro s x hx h1 h2
  have hb : ¬ Cl (Pp n L (es.eraseIdx i) s) x e.1 ∧ ¬ Cl (Pp n L (es.eraseIdx i) s) x e.2.1 := by
   rcases hends with ⟨a, b⟩ | ⟨a, b⟩ <;> rw [a, b]
   · exact ⟨h1, h2⟩
   · exact ⟨h2, h1⟩
  rcases pp_del h he s with hp | hp
  · rw [hp]; exact ⟨rfl, fun _ _ => Iff.rfl⟩
  ·
   rw [hp]
   have x' : InR (Pp n L (es.eraseIdx i) s).length x := by rw [len_Pp]; exact hx
   have a' : InR (Pp n L (es.eraseIdx i) s).length e.1 := by rw [len_Pp]; exact i1
   have nc : ¬ Cl (joinL (Pp n L (es.eraseIdx i) s) e.1 e.2.1) x e.1 := by
    unfold Cl at hb ⊢
    rw [g_join_u a', g_join _ _ _ _ x']
    have := hb.1
    have := hb.2
    split <;> omega
   exact ⟨cls_far a' x' nc, fun y hy => (join_far a' x' nc).2 y (by rw [len_Pp]; exact hy)⟩
 refine mend_inv hd hL hS hu hv fun s x hx h1 h2 h3 => ?_
 obtain ⟨k1, k2⟩ := key s x hx h1 h2
 have hsL : s < L := by
  refine Decidable.byContradiction fun hn => h3 ?_
  exact hSL _ _ (by omega)
 have hcu : u ∉ cls (Pp n L es s) x := fun hm => h1 ((k2 u hu).1 (mem_cls.1 hm).2.symm)
 have hcv : v ∉ cls (Pp n L es s) x := fun hm => h2 ((k2 v hv).1 (mem_cls.1 hm).2.symm)
 have e2 : (uv (es.eraseIdx i)).filter (crB (cls (Pp n L es s) x)) = (uv es).filter (crB (cls (Pp n L es s) x)) := by
  rw [uv_erase]
  refine filter_erase _ _ _ fun a ha => ?_
  rw [hp] at ha; injection ha with ha; subst ha
  refine filter_far (ps := []) ?_ ?_
  ·
   show e.1 ∉ _
   rcases hends with ⟨a, _⟩ | ⟨a, _⟩ <;> rw [a] <;> assumption
  ·
   show e.2.1 ∉ _
   rcases hends with ⟨_, a⟩ | ⟨_, a⟩ <;> rw [a] <;> assumption
 unfold Fd at h3
 rw [← k1, e2] at h3
 obtain ⟨y, hy, c1, c2⟩ := hi s hsL x hx h3
 have c2' : ¬ Cl (Pp n L (es.eraseIdx i) s) x y := fun hc => c2 ((k2 y hy).2 hc)
 by_cases g1 : Cl (Pp n L (es.eraseIdx i) (s + 1)) x u
 · exact ⟨u, hu, g1, h1⟩
 ·
  by_cases g2 : Cl (Pp n L (es.eraseIdx i) (s + 1)) x v
  · exact ⟨v, hv, g2, h2⟩
  · exact ⟨y, hy, ((key (s + 1) x hx g1 g2).2 y hy).1 c1, c2'⟩
theorem Gd.ins (h : Gd n L es) (hL : L ≤ 16) (hS : SOk S) (u v : Int) : Gd n L (insF n L S es u v) := by
 unfold insF
 split
 ·
  rename_i hc
  exact (h.add hc.1 hc.2.1 hc.2.2.1 hc.2.2.2 (by omega)).mend (by omega) hS hc.1 hc.2.1 L (Int.le_refl _)
 · exact h
theorem Gd.dels (h : Gd n L es) (hL : L ≤ 16) (hS : SOk S) (u v : Int) : Gd n L (delF n L S es u v) := by
 unfold delF
 split
 ·
  rename_i hc
  cases fiP (uv es) u v with
  | none => exact h
  | some i => exact (h.del i).mend (by omega) hS hc.1 hc.2 L (Int.le_refl _)
 · exact h
theorem inv_ins (h : Gd n L es) (hL : L ≤ 16) (hS : SOk S) (hSL : ∀ t ps, L ≤ t → S t ps = none) (hi : InvG n L S es) (u v : Int) : InvG n L S (insF n L S es u v) := by
 unfold insF
 split
 ·
  rename_i hc
  exact inv_add h hL hS hSL hi hc.1 hc.2.1 hc.2.2.1 hc.2.2.2
 · exact hi
theorem inv_dels (h : Gd n L es) (hL : L ≤ 16) (hS : SOk S) (hSL : ∀ t ps, L ≤ t → S t ps = none) (hi : InvG n L S es) (u v : Int) : InvG n L S (delF n L S es u v) := by
 unfold delF
 split
 ·
  rename_i hc
  cases hf : fiP (uv es) u v with
  | none => exact hi
  | some i => exact inv_del h hL hS hSL hi hc.1 hc.2 hf
 · exact hi
theorem gd_nil (hn : 0 < n) : Gd n L [] := by
 refine ⟨⟨fun e he => by simp at he, List.Pairwise.nil⟩, fun e he => by simp at he, ?_⟩
 refine ⟨fun x hx => by simp [fr, uv] at hx, ?_⟩
 show cnt (idl n) + 0 = n
 rw [cnt_idl]; rfl
theorem inv_nil (hn : 0 < n) (hS : SOk S) : InvG n L S [] := by
 intro s hs x hx hF
 refine absurd ?_ hF
 show S s [] = none
 cases h : S s [] with
 | none => rfl
 | some i => have := hS _ _ _ h; simp at this
end

/-! ## The search -/
def nmP (x : PE) : Nat := x.1.toNat * 16777216 + x.2.toNat
def wsP (hl : List (Nat × Nat)) (R V : Nat) (ps : List PE) : List Nat := Sk.togs hl V (ps.map nmP) (List.replicate (R * V) 0)
def tryP (ps : List PE) (w : Nat) : Option Nat := fiP ps ((w / 16777216 : Nat) : Int) ((w % 16777216 : Nat) : Int)
def srP (hl : List (Nat × Nat)) (R V : Nat) (ps : List PE) : Option Nat := (Sk.nms (wsP hl R V ps)).findSome? (tryP ps)
def hsOf (hs : List (Nat × Nat)) (R t : Nat) : List (Nat × Nat) := (hs.drop (t * R)).take R
def Sof (hs : List (Nat × Nat)) (R V L : Nat) (t : Nat) (ps : List PE) : Option Nat := if t < L then srP (hsOf hs R t) R V ps else none
theorem Sof_ok (hs : List (Nat × Nat)) (R V L : Nat) : SOk (Sof hs R V L) := by
 intro t ps i h
 unfold Sof at h
 split at h
 ·
  unfold srP at h
  obtain ⟨w, _, hw⟩ := List.exists_of_findSome?_eq_some h
  obtain ⟨x, hx, _⟩ := fiP_some hw
  exact (List.getElem?_eq_some_iff.1 hx).1
 · cases h
theorem Sof_end (hs : List (Nat × Nat)) (R V L : Nat) : ∀ t ps, L ≤ t → Sof hs R V L t ps = none := by
 intro t ps h
 unfold Sof; rw [if_neg (by omega)]
theorem Sof_same {hs hs2 : List (Nat × Nat)} {R V L k : Nat} (h : hs.take (k * R) = hs2.take (k * R)) : ∀ t, t < k → Sof hs R V L t = Sof hs2 R V L t := by
 intro t ht
 have e : hsOf hs R t = hsOf hs2 R t := by
  unfold hsOf
  have hle : t * R + R ≤ k * R := by
   have := Nat.mul_le_mul_right R (show t + 1 ≤ k by omega)
   rw [Nat.add_mul] at this; omega
  have key : ∀ l : List (Nat × Nat), (l.drop (t * R)).take R = ((l.take (k * R)).drop (t * R)).take R := by
   intro l
   rw [List.drop_take, List.take_take, Nat.min_eq_left (by omega)]
  rw [key, h, ← key]
 funext ps
 unfold Sof; rw [e]
end Tp
