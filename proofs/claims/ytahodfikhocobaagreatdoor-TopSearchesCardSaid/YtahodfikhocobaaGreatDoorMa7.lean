/- The texts TpZ, TpM, TpR, merged. No theorem here is a claim by itself. -/
import Derived.Test.YtahodfikhocobaaGreatDoorMa6
import Derived.Test.YtahodfikhocobaaGreatDoorMa3
import Derived.Deep.RegionHeld3
namespace Go.Proofs.YtahodfikhocobaaGreatDoor
open Go.RowKit
set_option linter.unusedVariables false
set_option linter.unusedSimpArgs false
attribute [local go_sem ↓] Go.wp_at_zero Go.wp_at_succ
/-- No cell of the slice lies in block K. -/
def Off (K : Nat) (v : Value) : Prop := ∀ b o n c, v = .slice (some ⟨b, o, none⟩) n c → 0 < n → b ≠ K
theorem Sl.off {w : World} {sz n K i : Nat} {v u : Value} {xs : List Value} (h : Sl w w.heap.size sz v n xs) (ho : Off K v) : Sl (w.setCell ⟨K, i, none⟩ u) (w.setCell ⟨K, i, none⟩ u).heap.size sz v n xs := by
  obtain ⟨A, c, hv, hn, hc, hl, hx⟩ := h
  refine ⟨A, c, hv, hn, hc, hl, fun h0 => ?_⟩
  obtain ⟨b, o, hA, hb, hcell⟩ := hx h0
  have hne : b ≠ K := ho b o n c (by rw [hv, hA]) h0
  refine ⟨b, o, hA, by simpa [World.setCell] using hb, fun j y hy => ?_⟩
  rw [World.cell?_of_block (Below.heap_setCell _ ⟨K, i, none⟩ u b hne)]
  exact hcell j y hy
theorem Sl.isOff {w : World} {B sz n K : Nat} {v : Value} {xs : List Value} (h : Sl w B sz v n xs) (hK : B ≤ K) : Off K v := by
  intro b o n' c' hv h0
  obtain ⟨A, c, hv2, hn, hc, hl, hx⟩ := h
  rw [hv2] at hv
  injection hv with h1 h2 h3
  subst h2
  obtain ⟨b2, o2, hA, hb, _⟩ := hx h0
  rw [hA] at h1
  injection h1 with h1
  injection h1 with h1
  omega
theorem own_isOff {w : World} {base sz n K : Nat} {e : TypeId} {v : Value} {xs : List Value} (h : w.ownsRow base e sz v n xs) (hK : K < base) : Off K v := by
  intro b o n' c' hv h0
  rcases h.2 with ⟨h1, _⟩ | ⟨k, cap, cur, h1, hb, _⟩
  · rw [h1] at hv; injection hv with e1; cases e1
  · rw [h1] at hv; injection hv with e1; injection e1 with e1; injection e1 with e1; omega
theorem put5_sl {w : World} {sz k K : Nat} {v a b c d e : Value} {xs : List Value} (h : Sl w w.heap.size sz v k xs) (ho : Off K v) :
    Sl (((((w.setCell ⟨K, 0, none⟩ (a)).setCell ⟨K, 1, none⟩ (b)).setCell ⟨K, 2, none⟩ (c)).setCell ⟨K, 3, none⟩ (d)).setCell ⟨K, 4, none⟩ (e)) ((((((w.setCell ⟨K, 0, none⟩ (a)).setCell ⟨K, 1, none⟩ (b)).setCell ⟨K, 2, none⟩ (c)).setCell ⟨K, 3, none⟩ (d)).setCell ⟨K, 4, none⟩ (e))).heap.size sz v k xs := ((((h.off ho).off ho).off ho).off ho).off ho
theorem put5_bel {w w0 : World} {B K : Nat} {a b c d e : Value} (h : Below B w0 w) (hK : B ≤ K) : Below B w0 (((((w.setCell ⟨K, 0, none⟩ (a)).setCell ⟨K, 1, none⟩ (b)).setCell ⟨K, 2, none⟩ (c)).setCell ⟨K, 3, none⟩ (d)).setCell ⟨K, 4, none⟩ (e)) :=
  ((((h.setCell (p := ⟨K, 0, none⟩) hK _).setCell (p := ⟨K, 1, none⟩) hK _).setCell (p := ⟨K, 2, none⟩) hK _).setCell (p := ⟨K, 3, none⟩) hK _).setCell (p := ⟨K, 4, none⟩) hK _
theorem put5_blk {w : World} {K : Nat} {t : TypeId} {a b c d e a0 b0 c0 d0 e0 : Value} (h : Blk w K t [a0, b0, c0, d0, e0]) : Blk (((((w.setCell ⟨K, 0, none⟩ (a)).setCell ⟨K, 1, none⟩ (b)).setCell ⟨K, 2, none⟩ (c)).setCell ⟨K, 3, none⟩ (d)).setCell ⟨K, 4, none⟩ (e)) K t [a, b, c, d, e] := ((((h.put 0 a).put 1 b).put 2 c).put 3 d).put 4 e
theorem put5_far {w : World} {K K' : Nat} {t : TypeId} {a b c d e : Value} {cs : List Value} (h : Blk w K' t cs) (hne : K' ≠ K) : Blk (((((w.setCell ⟨K, 0, none⟩ (a)).setCell ⟨K, 1, none⟩ (b)).setCell ⟨K, 2, none⟩ (c)).setCell ⟨K, 3, none⟩ (d)).setCell ⟨K, 4, none⟩ (e)) K' t cs :=
  ((((h.far (p := ⟨K, 0, none⟩) hne _).far (p := ⟨K, 1, none⟩) hne _).far (p := ⟨K, 2, none⟩) hne _).far (p := ⟨K, 3, none⟩) hne _).far (p := ⟨K, 4, none⟩) hne _
section
variable {n L R : Nat} {hs : List (Nat × Nat)} {es : List (Int × Int × Int)} {vh ve : Value} {w : World}
set_option maxHeartbeats 4000000 in
set_option maxRecDepth 100000 in
theorem tfits_is (hm : GM w vh ve hs es) (hp : GP n L R hs es) {u v : Int} (b : Bool) (hb : (Pt.InR n u ∧ Pt.InR n v) ↔ b = true) :
    Calls Tryz.prog 28 #[grV n L R vh ve, .int .i64 u, .int .i64 v] w fun e w' => e = .returned (.bool b) ∧ Below w.heap.size w w' := by
  have HBB := hid hb
  clear hb
  obtain ⟨A1, c1, A2, c2, rfl, rfl⟩ := hm.lit
  unfold grV
  obtain ⟨KG, hKG⟩ : ∃ K, K = w.heap.size := ⟨_, rfl⟩
  obtain ⟨w1, hw1⟩ : ∃ W, W = w.alloc (.cells #[.int .i64 (n : Int), .int .i64 (L : Int), .int .i64 (R : Int), .slice A1 hs.length c1, .slice A2 es.length c2] 28) := ⟨_, rfl⟩
  have HB : Hid (Below w.heap.size w w1) := hid (by rw [hw1]; exact bel_new _ _)
  have DG : Hid (Blk w1 KG 28 [.int .i64 (n : Int), .int .i64 (L : Int), .int .i64 (R : Int), .slice A1 hs.length c1, .slice A2 es.length c2]) := hid (by rw [hw1, hKG]; exact Blk.new _ _ _)
  have GM1 : Hid (GM w1 (.slice A1 hs.length c1) (.slice A2 es.length c2) hs es) := hid (by rw [hw1]; exact hm.new _)
  have HP := hid hp
  have HW := hid hw1
  have HKG := hid hKG
  have hn12 : n ≤ 12 := hp.n2
  have hL4 : L ≤ 4 := hp.l2
  have hR3 : R ≤ 3 := hp.r2
  clear hm hp hw1 hKG
  have g0 := DG.out.cell 0
  have g1 := DG.out.cell 1
  have g2 := DG.out.cell 2
  have g3 := DG.out.cell 3
  have g4 := DG.out.cell 4
  have HF : Hid (∀ p : Prop, (Pt.InR n u ∧ Pt.InR n v → p) → ¬ p → b = false) := hid (fun p h hn => not_true HBB.out (fun q => hn (h q)))
  unfold Pt.InR at HF
  by_cases c1 : 0 ≤ u
  case neg =>
    have HR := hid (HF.out (0 ≤ u) (fun h => h.1.1) c1)
    go_enter Tryz.func28, Tryz.ntmps28
    go_wp2_with fail
    rw [← HW.out, ← HKG.out]
    refine (sright_gp GM1.out HP.out).mono ?_; rintro e w2 ⟨rfl, b2⟩
    have HB2 := hid (Bl.call HB.out b2)
    clear b2
    go_wp2
    go_ret
    exact ⟨by rw [HR.out]; first | rfl | exact ret_bool (by simp; omega), HB2.out⟩
  case pos =>
  by_cases c2 : u < (n : Int)
  case neg =>
    have HR := hid (HF.out (u < (n : Int)) (fun h => h.1.2) c2)
    go_enter Tryz.func28, Tryz.ntmps28
    go_wp2_with fail
    rw [← HW.out, ← HKG.out]
    refine (sright_gp GM1.out HP.out).mono ?_; rintro e w2 ⟨rfl, b2⟩
    have HB2 := hid (Bl.call HB.out b2)
    clear b2
    go_wp2
    go_ret
    exact ⟨by rw [HR.out]; first | rfl | exact ret_bool (by simp; omega), HB2.out⟩
  case pos =>
  by_cases c3 : 0 ≤ v
  case neg =>
    have HR := hid (HF.out (0 ≤ v) (fun h => h.2.1) c3)
    go_enter Tryz.func28, Tryz.ntmps28
    go_wp2_with fail
    rw [← HW.out, ← HKG.out]
    refine (sright_gp GM1.out HP.out).mono ?_; rintro e w2 ⟨rfl, b2⟩
    have HB2 := hid (Bl.call HB.out b2)
    clear b2
    go_wp2
    go_ret
    exact ⟨by rw [HR.out]; first | rfl | exact ret_bool (by simp; omega), HB2.out⟩
  case pos =>
  by_cases c4 : v < (n : Int)
  case neg =>
    have HR := hid (HF.out (v < (n : Int)) (fun h => h.2.2) c4)
    go_enter Tryz.func28, Tryz.ntmps28
    go_wp2_with fail
    rw [← HW.out, ← HKG.out]
    refine (sright_gp GM1.out HP.out).mono ?_; rintro e w2 ⟨rfl, b2⟩
    have HB2 := hid (Bl.call HB.out b2)
    clear b2
    go_wp2
    go_ret
    exact ⟨by rw [HR.out]; first | rfl | exact ret_bool (by simp; omega), HB2.out⟩
  case pos =>
  have HR : Hid (b = true) := hid (HBB.out.1 ⟨⟨c1, c2⟩, c3, c4⟩)
  go_enter Tryz.func28, Tryz.ntmps28
  go_wp2_with fail
  rw [← HW.out, ← HKG.out]
  refine (sright_gp GM1.out HP.out).mono ?_; rintro e w2 ⟨rfl, b2⟩
  have HB2 := hid (Bl.call HB.out b2)
  clear b2
  go_wp2
  go_ret
  exact ⟨by rw [HR.out]; first | rfl | exact ret_bool (by simp; omega), HB2.out⟩
def RaPost (n L R : Nat) (vh ve : Value) (es' : List (Int × Int × Int)) (w : World) (e : Ending) (w' : World) : Prop :=
  ∃ v', e = .returned (.agg #[.int .i64 (n : Int), .int .i64 (L : Int), .int .i64 (R : Int), vh, v']) ∧ Sl w' w'.heap.size 3 v' es'.length (eds es') ∧ (∀ K, K < w.heap.size → Off K ve → Off K v') ∧ Below w.heap.size w w'
def LenPost (k : Nat) (w : World) (e : Ending) (w' : World) : Prop := ∃ A c, e = .returned (.slice A k c) ∧ Below w.heap.size w w'
theorem tree_lenp {l : List Int} {k : Nat} (hk : l.length = k) {e : Ending} {w w' : World} (h : TreePost l w e w') : LenPost k w e w' := by
  subst hk
  obtain ⟨v, h1, ⟨A, c, hv, _⟩, h3⟩ := h
  subst hv
  exact ⟨A, c, h1, h3⟩
def raF (n : Nat) (L : Int) (es : List (Int × Int × Int)) (t : Nat) : Option (Int × Int × Int) → List (Int × Int × Int)
  | none => es
  | some e => Tp.setT (Tp.remF n L es e) e.1 e.2.1 ((t : Int) + 1)
/-- The graph behind raising, told by what is found. -/
theorem raised_eq (hp : GP n L R hs es) {t : Nat} (ht : t < L) (v : Int) : Tp.raisedF n L (Tp.Sof hs R (lvl n) L) es t v =
    if (Tp.treeL n es t v).length = (Tp.treeL n es ((t : Int) + 1) v).length then
      raF n L es t (found (Tp.hsOf hs R t) R (lvl n) (Tp.cutL es (Tp.treeL n es t v))) else es := by
  unfold Tp.raisedF found Tp.Sof
  rw [if_pos ht]
  split
  · cases Tp.srP (Tp.hsOf hs R t) R (lvl n) (Pt.uv (Tp.cutL es (Tp.treeL n es t v))) with
    | none => rfl
    | some i =>
      simp only [Option.bind_some]
      cases (Tp.cutL es (Tp.treeL n es t v))[i]? <;> rfl
  · rfl
theorem found_in {hl : List (Nat × Nat)} {V : Nat} {c : List Int} {e : Int × Int × Int} (h : found hl R V (Tp.cutL es c) = some e) : e ∈ es := by
  unfold found at h
  cases hs : Tp.srP hl R V (Pt.uv (Tp.cutL es c)) with
  | none => rw [hs] at h; simp at h
  | some i => rw [hs] at h; simp at h; exact (Tp.mem_cut.1 (List.mem_of_getElem? h)).1
theorem set_facts (hp : GP n L R hs es) {d : Int × Int × Int} (hd : d ∈ es) {t : Int} (h0 : 0 ≤ t) (h1 : t ≤ 16) : TabR n (Tp.setT es d.1 d.2.1 t) ∧ Pt.uv (Tp.setT es d.1 d.2.1 t) = Pt.uv es ∧ (Tp.setT es d.1 d.2.1 t).length = es.length ∧ ∃ j, Tp.fiP (Pt.uv es) d.1 d.2.1 = some j := by
  obtain ⟨j, hj⟩ := List.mem_iff_getElem?.1 hd
  have e := hp.gd.tb.setT hj t
  refine ⟨?_, ?_, ?_, j, hp.gd.tb.fi hj⟩
  · rw [e]; exact tabr_of (hp.gd.tb.set hj ⟨h0, h1⟩) (by have := hp.n2; omega)
  · rw [e]; exact Tp.uv_set hj t
  · rw [e, List.length_set]
theorem rem_some (hp : GP n L R hs es) {e : Int × Int × Int} (he : e ∈ es) (h0 : e.2.2 = 0) {p : List Nat} (hsm : Pt.Sm (Pt.uv (frs L es)) e.1 p e.2.1) :
    ∃ a l, Pt.edsAt (frs L es) p = a :: l ∧ l.foldl Tp.gre1 a ∈ es ∧ Tp.remF n L es e = Tp.setT es (l.foldl Tp.gre1 a).1 (l.foldl Tp.gre1 a).2.1 0 := by
  have hf := hp.gd.fs
  have htb := hp.gd.tb.fr L
  have hsw := Tp.seps_way htb hf hsm
  have hgr : Tp.gre (Tp.seps n (Tp.fr L es) e.1 e.2.1) = Tp.gre (Pt.edsAt (frs L es) p) := Tp.gre_ext hsw
  obtain ⟨i1, i2⟩ := hp.gd.in1 he
  have hne : e.1 ≠ e.2.1 := by have := (hp.gd.tb.1 e he).2.1; omega
  have hnn := Tp.seps_some htb hf i1 i2 (hsm.1.cn hf.1) hne
  cases hq : Pt.edsAt (frs L es) p with
  | nil => rw [hq] at hgr; exact absurd (Tp.gre_none.1 hgr) hnn
  | cons a l =>
    rw [hq] at hgr
    have hsome : Tp.gre (Tp.seps n (Tp.fr L es) e.1 e.2.1) = some (l.foldl Tp.gre1 a) := hgr
    have hm := (Tp.gre_spec hsome).1
    refine ⟨a, l, rfl, (Tp.mem_fr.1 (Tp.mem_seps.1 hm).2.1).1, ?_⟩
    unfold Tp.remF
    rw [if_pos h0, hsome]
theorem rem_no (e : Int × Int × Int) (h : e.2.2 ≠ 0 ∨ ¬ Pt.Cn n (Pt.uv (frs L es)) e.1 e.2.1) : Tp.remF n L es e = es := by
  unfold Tp.remF
  by_cases h0 : e.2.2 = 0
  · rw [if_pos h0]
    have hc := h.resolve_left (fun q => q h0)
    have : Tp.seps n (Tp.fr L es) e.1 e.2.1 = [] := by unfold Tp.seps; rw [if_neg]; exact hc
    rw [this]; rfl
  · rw [if_neg h0]
set_option maxHeartbeats 32000000 in
set_option maxRecDepth 100000 in
theorem raised_ok (hm : GM w vh ve hs es) (hp : GP n L R hs es) {t : Nat} {v : Int} (ht : t < L) (a3 : 0 ≤ v) (a4 : v < (n : Int)) :
    Calls Tryz.prog 56 #[grV n L R vh ve, .int .i64 (t : Int), .int .i64 v] w (RaPost n L R vh ve (Tp.raisedF n L (Tp.Sof hs R (lvl n) L) es t v) w) := by
  have hS0 := hm.se
  obtain ⟨A1, c1, A2, c2, rfl, rfl⟩ := hm.lit
  unfold grV
  obtain ⟨KG, hKG⟩ : ∃ K, K = w.heap.size := ⟨_, rfl⟩
  obtain ⟨w1, hw1⟩ : ∃ W, W = w.alloc (.cells #[.int .i64 (n : Int), .int .i64 (L : Int), .int .i64 (R : Int), .slice A1 hs.length c1, .slice A2 es.length c2] 28) := ⟨_, rfl⟩
  have HB : Hid (Below w.heap.size w w1) := hid (by rw [hw1]; exact bel_new _ _)
  have DG : Hid (Blk w1 KG 28 [.int .i64 (n : Int), .int .i64 (L : Int), .int .i64 (R : Int), .slice A1 hs.length c1, .slice A2 es.length c2]) := hid (by rw [hw1, hKG]; exact Blk.new _ _ _)
  have GM1 : Hid (GM w1 (.slice A1 hs.length c1) (.slice A2 es.length c2) hs es) := hid (by rw [hw1]; exact hm.new _)
  have HP := hid hp
  have HW := hid hw1
  have HKG := hid hKG
  have hn12 : n ≤ 12 := hp.n2
  have hL4 : L ≤ 4 := hp.l2
  have hR3 : R ≤ 3 := hp.r2
  clear hm hp hw1 hKG
  have S0 := hid hS0
  clear hS0
  obtain ⟨es', hes⟩ : ∃ es', es' = Tp.raisedF n L (Tp.Sof hs R (lvl n) L) es t v := ⟨_, rfl⟩
  have hes2 := hes
  rw [raised_eq HP.out ht] at hes2
  rw [← hes]
  obtain ⟨la, hla⟩ : ∃ la, (Tp.treeL n es t v).length = la := ⟨_, rfl⟩
  obtain ⟨lb, hlb⟩ : ∃ lb, (Tp.treeL n es ((t : Int) + 1) v).length = lb := ⟨_, rfl⟩
  rw [hla, hlb] at hes2
  obtain ⟨r, hr⟩ : ∃ r, r = found (Tp.hsOf hs R t) R (lvl n) (Tp.cutL es (Tp.treeL n es t v)) := ⟨_, rfl⟩
  rw [← hr] at hes2
  have HES := hid hes2
  have HTA : Hid (∀ {w : World}, GM w (.slice A1 hs.length c1) (.slice A2 es.length c2) hs es → Calls Tryz.prog 7 #[grV n L R (.slice A1 hs.length c1) (.slice A2 es.length c2), .int .i64 (t : Int), .int .i64 v] w (LenPost la w)) := hid (fun hm => (sTree_ok hm HP.out (by omega) (by omega) a3 a4).mono fun _ _ h => tree_lenp hla h)
  have HTB : Hid (∀ {w : World}, GM w (.slice A1 hs.length c1) (.slice A2 es.length c2) hs es → Calls Tryz.prog 7 #[grV n L R (.slice A1 hs.length c1) (.slice A2 es.length c2), .int .i64 (IntKind.i64.wrap ((t : Int) + 1)), .int .i64 v] w (LenPost lb w)) := hid (fun hm => by rw [show IntKind.i64.wrap ((t : Int) + 1) = (t : Int) + 1 by rw [IntKind.wrap_i64]; omega]; exact (sTree_ok hm HP.out (by omega) (by omega) a3 a4).mono fun _ _ h => tree_lenp hlb h)
  have HSE : Hid (∀ {w : World}, GM w (.slice A1 hs.length c1) (.slice A2 es.length c2) hs es → Calls Tryz.prog 8 #[grV n L R (.slice A1 hs.length c1) (.slice A2 es.length c2), .int .i64 (t : Int), .int .i64 v] w (SePost r w)) := hid (fun hm => by rw [hr]; exact sSearch_ok hm HP.out ht a3 a4)
  have HIN : Hid (∀ e, r = some e → e ∈ es) := hid (fun e he => found_in (hr.symm.trans he))
  have hL16 : (t : Int) + 1 ≤ 16 := by omega
  have ht0 : (0 : Int) ≤ (t : Int) + 1 := by omega
  clear hes hes2 hr
  obtain ⟨w2, hw2⟩ : ∃ W, W = w1.alloc (.cells #[.int .i64 0, .int .i64 0, .int .i64 0, .slice none 0 0, .slice none 0 0] 28) := ⟨_, rfl⟩
  obtain ⟨K6, hK6⟩ : ∃ K, K = KG + 1 := ⟨_, rfl⟩
  have hsz1 : w1.heap.size = KG + 1 := by rw [HW.out, HKG.out]; simp
  have b12 : Below w1.heap.size w1 w2 := by rw [hw2]; exact bel_new _ _
  replace HB := hid (Bl.call HB.out b12)
  replace DG := hid (DG.out.below b12 DG.out.lt)
  replace GM1 := hid (GM1.out.call b12)
  have D6 : Hid (Blk w2 K6 28 [.int .i64 0, .int .i64 0, .int .i64 0, .slice none 0 0, .slice none 0 0]) := hid (by rw [hw2, hK6, ← hsz1]; exact Blk.new _ _ _)
  have LOG : Hid (w.heap.size ≤ KG) := hid (by rw [HKG.out]; exact Nat.le_refl _)
  have LO6 : Hid (w.heap.size ≤ K6) := hid (by rw [hK6, HKG.out]; omega)
  have NE6 : Hid (K6 ≠ KG) := hid (by omega)
  have HW2 := hid hw2
  have HK6 := hid hK6
  clear b12 hw2 hK6 hsz1
  have OFF6 : Hid (Off K6 (.slice A2 es.length c2)) := hid (S0.out.isOff LO6.out)
  have g0 := DG.out.cell 0
  have g1 := DG.out.cell 1
  have g2 := DG.out.cell 2
  have g3 := DG.out.cell 3
  have g4 := DG.out.cell 4
  by_cases hll : la = lb
  case neg =>
    have hne : ((la : Int) != (lb : Int)) = true := by simp; omega
    have HEE : Hid (es' = es) := hid (by rw [HES.out, if_neg hll])
    clear hll
    go_enter Tryz.func56, Tryz.ntmps56
    go_upto_region 1 with (fail)
    rw [← HW.out, ← HKG.out, ← HK6.out, ← HW2.out]
    go_region_held3 (fun w' => w'.cell? ⟨KG, 0, none⟩ = some (.int .i64 (n : Int)) ∧ w'.cell? ⟨KG, 1, none⟩ = some (.int .i64 (L : Int)) ∧ w'.cell? ⟨KG, 2, none⟩ = some (.int .i64 (R : Int)) ∧ w'.cell? ⟨KG, 3, none⟩ = some (.slice A1 hs.length c1) ∧ w'.cell? ⟨KG, 4, none⟩ = some (.slice A2 es.length c2))
      (first | go_keep | (go_split_ands; and_intros <;> (first | (refine cell_later (by assumption) ?_; first | assumption | (rw [Qt.cell (qt_of _ _)]; assumption) | (rw [Qt.cell (qt_drew _)]; assumption)) | (refine cell_later (bel_new _ _) ?_; assumption) | (rw [Qt.cell (by assumption)]; first | assumption | (rw [Qt.cell (qt_of _ _)]; assumption) | (rw [Qt.cell (qt_drew _)]; assumption)))))
      (first | (go_at_call 7; (with_reducible refine (HTA.out (by repeat (first | exact GM1.out | refine GM.new ?_ _ | refine GM.cqt ?_ (qt_drew _) | refine GM.cqt ?_ (qt_of _ _) | refine GM.call ?_ (by assumption) | refine GM.cqt ?_ (by assumption)))).mono ?_); rintro e wz ⟨Az, cz, rfl, bz⟩)
             | (go_at_call 7; (with_reducible refine (HTB.out (by repeat (first | exact GM1.out | refine GM.new ?_ _ | refine GM.cqt ?_ (qt_drew _) | refine GM.cqt ?_ (qt_of _ _) | refine GM.call ?_ (by assumption) | refine GM.cqt ?_ (by assumption)))).mono ?_); rintro e wz ⟨Az, cz, rfl, bz⟩))
    all_goals
      have HBA : Below w2.heap.size w2 wz := Bl.call (Bl.call (Bl.qt (Below.refl _ _) (qt_drew _)) (by assumption)) (by assumption)
      replace DG := hid (DG.out.on HBA)
      replace D6 := hid (D6.out.on HBA)
      replace GM1 := hid (GM1.out.call HBA)
      replace HB := hid (Bl.call HB.out HBA)
      have SE := hid GM1.out.se
      clear HBA g0 g1 g2 g3 g4
      have g0 := DG.out.cell 0
      have g1 := DG.out.cell 1
      have g2 := DG.out.cell 2
      have g3 := DG.out.cell 3
      have g4 := DG.out.cell 4
      have f0 := D6.out.frozen 0
      have f1 := D6.out.frozen 1
      have f2 := D6.out.frozen 2
      have f3 := D6.out.frozen 3
      have f4 := D6.out.frozen 4
      have p0 := D6.out.cell 0
      have p1 := D6.out.cell 1
      have p2 := D6.out.cell 2
      have p3 := D6.out.cell 3
      have p4 := D6.out.cell 4
      obtain ⟨w99, hw⟩ : ∃ z, z = (((((wz.setCell ⟨K6, 0, none⟩ (.int .i64 (n : Int))).setCell ⟨K6, 1, none⟩ (.int .i64 (L : Int))).setCell ⟨K6, 2, none⟩ (.int .i64 (R : Int))).setCell ⟨K6, 3, none⟩ (.slice A1 hs.length c1)).setCell ⟨K6, 4, none⟩ (.slice A2 es.length c2)) := ⟨_, rfl⟩
      have D8 : Hid (Blk w99 K6 28 [.int .i64 (n : Int), .int .i64 (L : Int), .int .i64 (R : Int), .slice A1 hs.length c1, .slice A2 es.length c2]) := hid (by rw [hw]; exact put5_blk D6.out)
      have HB8 : Hid (Below w.heap.size w w99) := hid (by rw [hw]; exact put5_bel HB.out LO6.out)
      have SE8 := hid (put5_sl (a := .int .i64 (n : Int)) (b := .int .i64 (L : Int)) (c := .int .i64 (R : Int)) (d := .slice A1 hs.length c1) (e := .slice A2 es.length c2) SE.out OFF6.out)
      rw [← hw] at SE8
      have HW8 := hid hw
      clear hw
      go_wp2
      rw [← HW8.out]
      clear g0 g1 g2 g3 g4
      clear f0 f1 f2 f3 f4
      clear p0 p1 p2 p3 p4
      have e0 := D8.out.cell 0
      have e1 := D8.out.cell 1
      have e2 := D8.out.cell 2
      have e3 := D8.out.cell 3
      have e4 := D8.out.cell 4
      exact bodyPost_ret (v := .agg #[.int .i64 (n : Int), .int .i64 (L : Int), .int .i64 (R : Int), .slice A1 hs.length c1, .slice A2 es.length c2]) (by simp [results, Tryz.results56, go_sem, e0, e1, e2, e3, e4]) rfl ⟨_, rfl, by rw [HEE.out]; exact SE8.out, fun _ _ h => h, HB8.out⟩
  case pos =>
    subst hll
    have hne : ((la : Int) != (la : Int)) = false := by simp
    have HEE : Hid (es' = raF n L es t r) := hid (by rw [HES.out, if_pos rfl])
    go_enter Tryz.func56, Tryz.ntmps56
    go_upto_region 1 with (fail)
    rw [← HW.out, ← HKG.out, ← HK6.out, ← HW2.out]
    go_region_held3 (fun w' => w'.cell? ⟨KG, 0, none⟩ = some (.int .i64 (n : Int)) ∧ w'.cell? ⟨KG, 1, none⟩ = some (.int .i64 (L : Int)) ∧ w'.cell? ⟨KG, 2, none⟩ = some (.int .i64 (R : Int)) ∧ w'.cell? ⟨KG, 3, none⟩ = some (.slice A1 hs.length c1) ∧ w'.cell? ⟨KG, 4, none⟩ = some (.slice A2 es.length c2))
      (first | go_keep | (go_split_ands; and_intros <;> (first | (refine cell_later (by assumption) ?_; first | assumption | (rw [Qt.cell (qt_of _ _)]; assumption) | (rw [Qt.cell (qt_drew _)]; assumption)) | (refine cell_later (bel_new _ _) ?_; assumption) | (rw [Qt.cell (by assumption)]; first | assumption | (rw [Qt.cell (qt_of _ _)]; assumption) | (rw [Qt.cell (qt_drew _)]; assumption)))))
      (first | (go_at_call 7; (with_reducible refine (HTA.out (by repeat (first | exact GM1.out | refine GM.new ?_ _ | refine GM.cqt ?_ (qt_drew _) | refine GM.cqt ?_ (qt_of _ _) | refine GM.call ?_ (by assumption) | refine GM.cqt ?_ (by assumption)))).mono ?_); rintro e wz ⟨Az, cz, rfl, bz⟩)
             | (go_at_call 7; (with_reducible refine (HTB.out (by repeat (first | exact GM1.out | refine GM.new ?_ _ | refine GM.cqt ?_ (qt_drew _) | refine GM.cqt ?_ (qt_of _ _) | refine GM.call ?_ (by assumption) | refine GM.cqt ?_ (by assumption)))).mono ?_); rintro e wz ⟨Az, cz, rfl, bz⟩))
    all_goals
      have HBA : Below w2.heap.size w2 wz := Bl.call (Bl.call (Bl.qt (Below.refl _ _) (qt_drew _)) (by assumption)) (by assumption)
      replace DG := hid (DG.out.on HBA)
      replace D6 := hid (D6.out.on HBA)
      replace GM1 := hid (GM1.out.call HBA)
      replace HB := hid (Bl.call HB.out HBA)
      clear HBA g0 g1 g2 g3 g4
      have g0 := DG.out.cell 0
      have g1 := DG.out.cell 1
      have g2 := DG.out.cell 2
      have g3 := DG.out.cell 3
      have g4 := DG.out.cell 4
      go_wp2_with fail
      refine (HSE.out GM1.out).mono ?_; rintro e w4 ⟨rfl, b4⟩
      clear g0 g1 g2 g3 g4
      replace DG := hid (DG.out.on b4)
      replace D6 := hid (D6.out.on b4)
      replace GM1 := hid (GM1.out.call b4)
      replace HB := hid (Bl.call HB.out b4)
      clear b4
      cases r with
      | none =>
        have bz7 := bel_new w4 (.cells #[.int .i64 0, .int .i64 0, .int .i64 0] 35)
        obtain ⟨w5, hw5⟩ : ∃ W, W = w4.alloc (.cells #[.int .i64 0, .int .i64 0, .int .i64 0] 35) := ⟨_, rfl⟩
        rw [← hw5] at bz7
        replace DG := hid (DG.out.on bz7)
        replace D6 := hid (D6.out.on bz7)
        replace GM1 := hid (GM1.out.call bz7)
        replace HB := hid (Bl.call HB.out bz7)
        have SE := hid GM1.out.se
        have HW5 := hid hw5
        clear bz7 hw5
        have g0 := DG.out.cell 0
        have g1 := DG.out.cell 1
        have g2 := DG.out.cell 2
        have g3 := DG.out.cell 3
        have g4 := DG.out.cell 4
        have HEN : Hid (es' = es) := hid HEE.out
        unfold seV
        go_upto_region 5 with (fail)
        rw [← HW5.out]
        clear g0 g1 g2 g3 g4
        have g0 := DG.out.cell 0
        have g1 := DG.out.cell 1
        have g2 := DG.out.cell 2
        have g3 := DG.out.cell 3
        have g4 := DG.out.cell 4
        have f0 := D6.out.frozen 0
        have f1 := D6.out.frozen 1
        have f2 := D6.out.frozen 2
        have f3 := D6.out.frozen 3
        have f4 := D6.out.frozen 4
        have p0 := D6.out.cell 0
        have p1 := D6.out.cell 1
        have p2 := D6.out.cell 2
        have p3 := D6.out.cell 3
        have p4 := D6.out.cell 4
        obtain ⟨w99, hw⟩ : ∃ z, z = (((((w5.setCell ⟨K6, 0, none⟩ (.int .i64 (n : Int))).setCell ⟨K6, 1, none⟩ (.int .i64 (L : Int))).setCell ⟨K6, 2, none⟩ (.int .i64 (R : Int))).setCell ⟨K6, 3, none⟩ (.slice A1 hs.length c1)).setCell ⟨K6, 4, none⟩ (.slice A2 es.length c2)) := ⟨_, rfl⟩
        have D8 : Hid (Blk w99 K6 28 [.int .i64 (n : Int), .int .i64 (L : Int), .int .i64 (R : Int), .slice A1 hs.length c1, .slice A2 es.length c2]) := hid (by rw [hw]; exact put5_blk D6.out)
        have HB8 : Hid (Below w.heap.size w w99) := hid (by rw [hw]; exact put5_bel HB.out LO6.out)
        have SE8 := hid (put5_sl (a := .int .i64 (n : Int)) (b := .int .i64 (L : Int)) (c := .int .i64 (R : Int)) (d := .slice A1 hs.length c1) (e := .slice A2 es.length c2) SE.out OFF6.out)
        rw [← hw] at SE8
        have HW8 := hid hw
        clear hw
        go_wp2
        rw [← HW8.out]
        clear g0 g1 g2 g3 g4
        clear f0 f1 f2 f3 f4
        clear p0 p1 p2 p3 p4
        have e0 := D8.out.cell 0
        have e1 := D8.out.cell 1
        have e2 := D8.out.cell 2
        have e3 := D8.out.cell 3
        have e4 := D8.out.cell 4
        exact bodyPost_ret (v := .agg #[.int .i64 (n : Int), .int .i64 (L : Int), .int .i64 (R : Int), .slice A1 hs.length c1, .slice A2 es.length c2]) (by simp [results, Tryz.results56, go_sem, e0, e1, e2, e3, e4]) rfl ⟨_, rfl, by rw [HEN.out]; exact SE8.out, fun _ _ h => h, HB8.out⟩
      | some ed =>
        obtain ⟨x, y, tt⟩ := ed
        have hin := HIN.out _ rfl
        obtain ⟨io, hio⟩ := List.mem_iff_getElem?.1 hin
        have hgi := HP.out.gd.in1 hin
        have hok := HP.out.gd.tb.1 _ hin
        unfold Tp.EOk at hok
        unfold Pt.InR at hgi
        dsimp only at hok hgi
        have x1 : 0 ≤ x := by omega
        have x2 : x < (n : Int) := by omega
        have y1 : 0 ≤ y := by omega
        have y2 : y < (n : Int) := by omega
        have hxy : x ≠ y := by omega
        have htt : 0 ≤ tt := by omega
        have HEN : Hid (es' = Tp.setT (Tp.remF n L es (x, y, tt)) x y ((t : Int) + 1)) := hid HEE.out
        have HFI := hid (HP.out.gd.tb.fi hio)
        have HIO := hid hio
        dsimp only at HFI
        clear hin hio hgi hok
        have bz7 := bel_new w4 (.cells #[.int .i64 x, .int .i64 y, .int .i64 tt] 35)
        obtain ⟨w5, hw5⟩ : ∃ W, W = w4.alloc (.cells #[.int .i64 x, .int .i64 y, .int .i64 tt] 35) := ⟨_, rfl⟩
        obtain ⟨K7, hK7⟩ : ∃ K, K = w4.heap.size := ⟨_, rfl⟩
        have D7 : Hid (Blk w5 K7 35 [.int .i64 x, .int .i64 y, .int .i64 tt]) := hid (by rw [hw5, hK7]; exact Blk.new _ _ _)
        have NE7 : Hid (KG ≠ K7) := hid (by have := DG.out.lt; omega)
        have NE76 : Hid (K6 ≠ K7) := hid (by have := D6.out.lt; omega)
        rw [← hw5] at bz7
        replace DG := hid (DG.out.on bz7)
        replace D6 := hid (D6.out.on bz7)
        replace GM1 := hid (GM1.out.call bz7)
        replace HB := hid (Bl.call HB.out bz7)
        have HW5 := hid hw5
        have HK7 := hid hK7
        clear bz7 hw5 hK7
        have g0 := DG.out.cell 0
        have g1 := DG.out.cell 1
        have g2 := DG.out.cell 2
        have g3 := DG.out.cell 3
        have g4 := DG.out.cell 4
        unfold seV
        go_upto_region 6 with (fail)
        rw [← HW5.out, ← HK7.out]
        by_cases ht0e : tt = 0
        case neg =>
          have hne0 : (tt == 0) = false := by simp [ht0e]
          have HEQ : Hid (es' = Tp.setT es x y ((t : Int) + 1)) := hid (by rw [HEN.out, rem_no _ (.inl ht0e)])
          have TAB := hid HP.out.tab
          have LEN : Hid (es.length ≤ 1000000) := hid (Nat.le_trans HP.out.el (by decide))
          have SLE := hid GM1.out.se
          have k0 := D7.out.cell 0
          have k1 := D7.out.cell 1
          have k2 := D7.out.cell 2
          go_wp2_with fail
          refine (tset_ok (n := (n : Int)) (l := es) (u := x) (v := y) (t := (t : Int) + 1) SLE.out TAB.out x1 x2 y1 y2 ht0 hL16 HFI.out LEN.out).mono ?_; rintro e w20 ⟨v20, rfl, o20, b20⟩
          clear g0 g1 g2 g3 g4
          clear k0 k1 k2
          obtain ⟨A20, c20, hv20, _, _, _, _⟩ := Sl.of_own o20
          subst hv20
          have HO := hid o20
          have BASE : Hid (w.heap.size ≤ w5.heap.size) := hid HB.out.size
          have KGL : Hid (KG < w5.heap.size) := hid DG.out.lt
          have K6L : Hid (K6 < w5.heap.size) := hid D6.out.lt
          replace DG := hid (DG.out.on b20)
          replace D6 := hid (D6.out.on b20)
          replace D7 := hid (D7.out.on b20)
          replace HB := hid (Bl.call HB.out b20)
          have OK20 : Hid (∀ K, K < w5.heap.size → Off K (.slice A20 (Tp.setT (es) x y ((t : Int) + 1)).length c20)) := hid (fun K hK => own_isOff HO.out hK)
          obtain ⟨w21, hw21⟩ : ∃ z, z = w20.setCell ⟨KG, 4, none⟩ (.slice A20 (Tp.setT (es) x y ((t : Int) + 1)).length c20) := ⟨_, rfl⟩
          have SE : Hid (Sl w21 w21.heap.size 3 (.slice A20 (Tp.setT (es) x y ((t : Int) + 1)).length c20) (Tp.setT (es) x y ((t : Int) + 1)).length (eds (Tp.setT (es) x y ((t : Int) + 1)))) := hid (by rw [hw21]; exact (Sl.of_own HO.out).off (OK20.out _ KGL.out))
          replace OFF6 := hid (OK20.out _ K6L.out)
          have DG2 : Hid (Blk w21 KG 28 [.int .i64 (n : Int), .int .i64 (L : Int), .int .i64 (R : Int), .slice A1 hs.length c1, .slice A20 (Tp.setT (es) x y ((t : Int) + 1)).length c20]) := hid (by rw [hw21]; exact DG.out.put 4 (.slice A20 (Tp.setT (es) x y ((t : Int) + 1)).length c20))
          have D62 : Hid (Blk w21 K6 28 [.int .i64 0, .int .i64 0, .int .i64 0, .slice none 0 0, .slice none 0 0]) := hid (by rw [hw21]; exact D6.out.far (p := ⟨KG, 4, none⟩) NE6.out _)
          have HB2 : Hid (Below w.heap.size w w21) := hid (by rw [hw21]; exact HB.out.setCell (p := ⟨KG, 4, none⟩) LOG.out _)
          have HW21 := hid hw21
          clear o20 b20 hw21
          have g4 := DG.out.cell 4
          have f4 := DG.out.frozen 4
          go_upto_region 14 with (fail)
          rw [← HW21.out]
          clear g4 f4 DG D6 D7 HB
          have DG := DG2
          have D6 := D62
          have HB := HB2
          clear DG2 D62 HB2
          have g0 := DG.out.cell 0
          have g1 := DG.out.cell 1
          have g2 := DG.out.cell 2
          have g3 := DG.out.cell 3
          have g4 := DG.out.cell 4
          have f0 := D6.out.frozen 0
          have f1 := D6.out.frozen 1
          have f2 := D6.out.frozen 2
          have f3 := D6.out.frozen 3
          have f4 := D6.out.frozen 4
          have p0 := D6.out.cell 0
          have p1 := D6.out.cell 1
          have p2 := D6.out.cell 2
          have p3 := D6.out.cell 3
          have p4 := D6.out.cell 4
          obtain ⟨w99, hw⟩ : ∃ z, z = (((((w21.setCell ⟨K6, 0, none⟩ (.int .i64 (n : Int))).setCell ⟨K6, 1, none⟩ (.int .i64 (L : Int))).setCell ⟨K6, 2, none⟩ (.int .i64 (R : Int))).setCell ⟨K6, 3, none⟩ (.slice A1 hs.length c1)).setCell ⟨K6, 4, none⟩ (.slice A20 (Tp.setT (es) x y ((t : Int) + 1)).length c20)) := ⟨_, rfl⟩
          have D8 : Hid (Blk w99 K6 28 [.int .i64 (n : Int), .int .i64 (L : Int), .int .i64 (R : Int), .slice A1 hs.length c1, .slice A20 (Tp.setT (es) x y ((t : Int) + 1)).length c20]) := hid (by rw [hw]; exact put5_blk D6.out)
          have HB8 : Hid (Below w.heap.size w w99) := hid (by rw [hw]; exact put5_bel HB.out LO6.out)
          have SE8 := hid (put5_sl (a := .int .i64 (n : Int)) (b := .int .i64 (L : Int)) (c := .int .i64 (R : Int)) (d := .slice A1 hs.length c1) (e := .slice A20 (Tp.setT (es) x y ((t : Int) + 1)).length c20) SE.out OFF6.out)
          rw [← hw] at SE8
          have HW8 := hid hw
          clear hw
          go_wp2
          rw [← HW8.out]
          clear g0 g1 g2 g3 g4
          clear f0 f1 f2 f3 f4
          clear p0 p1 p2 p3 p4
          have e0 := D8.out.cell 0
          have e1 := D8.out.cell 1
          have e2 := D8.out.cell 2
          have e3 := D8.out.cell 3
          have e4 := D8.out.cell 4
          exact bodyPost_ret (v := .agg #[.int .i64 (n : Int), .int .i64 (L : Int), .int .i64 (R : Int), .slice A1 hs.length c1, .slice A20 (Tp.setT (es) x y ((t : Int) + 1)).length c20]) (by simp [results, Tryz.results56, go_sem, e0, e1, e2, e3, e4]) rfl ⟨_, rfl, by rw [HEQ.out]; exact SE8.out, fun K hK _ => OK20.out K (by have := BASE.out; omega), HB8.out⟩
        case pos =>
          subst ht0e
          have hne0 : ((0 : Int) == 0) = true := rfl
          have TAB := hid HP.out.tab
          have LEN : Hid (es.length ≤ 1000000) := hid (Nat.le_trans HP.out.el (by decide))
          have FST : Hid (Pt.Fst n (Pt.uv (frs L es))) := hid HP.out.gd.fs
          have hn1024 : n ≤ 1024 := by omega
          have k0 := D7.out.cell 0
          have k1 := D7.out.cell 1
          have k2 := D7.out.cell 2
          go_wp2_with fail
          refine (tforest_any (n := (n : Int)) (k := (L : Int)) GM1.out.se TAB.out LEN.out).mono ?_; rintro e w6 ⟨v6, rfl, s6, b6⟩
          clear g0 g1 g2 g3 g4
          clear k0 k1 k2
          replace DG := hid (DG.out.on b6)
          replace D6 := hid (D6.out.on b6)
          replace D7 := hid (D7.out.on b6)
          replace GM1 := hid (GM1.out.call b6)
          replace HB := hid (Bl.call HB.out b6)
          have SF := hid s6
          clear s6 b6
          have g0 := DG.out.cell 0
          have g1 := DG.out.cell 1
          have g2 := DG.out.cell 2
          have g3 := DG.out.cell 3
          have g4 := DG.out.cell 4
          have k0 := D7.out.cell 0
          have k1 := D7.out.cell 1
          have k2 := D7.out.cell 2
          by_cases hcn : Pt.Cn n (Pt.uv (frs L es)) x y
          case neg =>
            have HEQ : Hid (es' = Tp.setT es x y ((t : Int) + 1)) := hid (by rw [HEN.out, rem_no _ (.inr hcn)])
            go_wp2_with fail
            refine (path_none hn1024 SF.out FST.out ⟨x1, x2⟩ ⟨y1, y2⟩ hcn).mono ?_; rintro e w7 ⟨rfl, b7⟩
            clear g0 g1 g2 g3 g4
            clear k0 k1 k2
            replace DG := hid (DG.out.on b7)
            replace D6 := hid (D6.out.on b7)
            replace D7 := hid (D7.out.on b7)
            replace GM1 := hid (GM1.out.call b7)
            replace HB := hid (Bl.call HB.out b7)
            clear b7 hcn SF
            go_wp2_with fail
            refine (greatest_nil _).mono ?_; rintro e w8 ⟨rfl, b8⟩
            replace DG := hid (DG.out.on b8)
            replace D6 := hid (D6.out.on b8)
            replace D7 := hid (D7.out.on b8)
            replace GM1 := hid (GM1.out.call b8)
            replace HB := hid (Bl.call HB.out b8)
            clear b8
            have bz9 := bel_new w8 (.cells #[.int .i64 0, .int .i64 0, .int .i64 0] 35)
            obtain ⟨w9, hw9⟩ : ∃ W, W = w8.alloc (.cells #[.int .i64 0, .int .i64 0, .int .i64 0] 35) := ⟨_, rfl⟩
            rw [← hw9] at bz9
            replace DG := hid (DG.out.on bz9)
            replace D6 := hid (D6.out.on bz9)
            replace D7 := hid (D7.out.on bz9)
            replace GM1 := hid (GM1.out.call bz9)
            replace HB := hid (Bl.call HB.out bz9)
            have HW9 := hid hw9
            clear bz9 hw9
            have SLE := hid GM1.out.se
            go_upto_region 11 with (fail)
            rw [← HW9.out]
            have g0 := DG.out.cell 0
            have g1 := DG.out.cell 1
            have g2 := DG.out.cell 2
            have g3 := DG.out.cell 3
            have g4 := DG.out.cell 4
            have k0 := D7.out.cell 0
            have k1 := D7.out.cell 1
            have k2 := D7.out.cell 2
            go_wp2_with fail
            refine (tset_ok (n := (n : Int)) (l := es) (u := x) (v := y) (t := (t : Int) + 1) SLE.out TAB.out x1 x2 y1 y2 ht0 hL16 HFI.out LEN.out).mono ?_; rintro e w20 ⟨v20, rfl, o20, b20⟩
            clear g0 g1 g2 g3 g4
            clear k0 k1 k2
            obtain ⟨A20, c20, hv20, _, _, _, _⟩ := Sl.of_own o20
            subst hv20
            have HO := hid o20
            have BASE : Hid (w.heap.size ≤ w9.heap.size) := hid HB.out.size
            have KGL : Hid (KG < w9.heap.size) := hid DG.out.lt
            have K6L : Hid (K6 < w9.heap.size) := hid D6.out.lt
            replace DG := hid (DG.out.on b20)
            replace D6 := hid (D6.out.on b20)
            replace D7 := hid (D7.out.on b20)
            replace HB := hid (Bl.call HB.out b20)
            have OK20 : Hid (∀ K, K < w9.heap.size → Off K (.slice A20 (Tp.setT (es) x y ((t : Int) + 1)).length c20)) := hid (fun K hK => own_isOff HO.out hK)
            obtain ⟨w21, hw21⟩ : ∃ z, z = w20.setCell ⟨KG, 4, none⟩ (.slice A20 (Tp.setT (es) x y ((t : Int) + 1)).length c20) := ⟨_, rfl⟩
            have SE : Hid (Sl w21 w21.heap.size 3 (.slice A20 (Tp.setT (es) x y ((t : Int) + 1)).length c20) (Tp.setT (es) x y ((t : Int) + 1)).length (eds (Tp.setT (es) x y ((t : Int) + 1)))) := hid (by rw [hw21]; exact (Sl.of_own HO.out).off (OK20.out _ KGL.out))
            replace OFF6 := hid (OK20.out _ K6L.out)
            have DG2 : Hid (Blk w21 KG 28 [.int .i64 (n : Int), .int .i64 (L : Int), .int .i64 (R : Int), .slice A1 hs.length c1, .slice A20 (Tp.setT (es) x y ((t : Int) + 1)).length c20]) := hid (by rw [hw21]; exact DG.out.put 4 (.slice A20 (Tp.setT (es) x y ((t : Int) + 1)).length c20))
            have D62 : Hid (Blk w21 K6 28 [.int .i64 0, .int .i64 0, .int .i64 0, .slice none 0 0, .slice none 0 0]) := hid (by rw [hw21]; exact D6.out.far (p := ⟨KG, 4, none⟩) NE6.out _)
            have HB2 : Hid (Below w.heap.size w w21) := hid (by rw [hw21]; exact HB.out.setCell (p := ⟨KG, 4, none⟩) LOG.out _)
            have HW21 := hid hw21
            clear o20 b20 hw21
            have g4 := DG.out.cell 4
            have f4 := DG.out.frozen 4
            go_upto_region 14 with (fail)
            rw [← HW21.out]
            clear g4 f4 DG D6 D7 HB
            have DG := DG2
            have D6 := D62
            have HB := HB2
            clear DG2 D62 HB2
            have g0 := DG.out.cell 0
            have g1 := DG.out.cell 1
            have g2 := DG.out.cell 2
            have g3 := DG.out.cell 3
            have g4 := DG.out.cell 4
            have f0 := D6.out.frozen 0
            have f1 := D6.out.frozen 1
            have f2 := D6.out.frozen 2
            have f3 := D6.out.frozen 3
            have f4 := D6.out.frozen 4
            have p0 := D6.out.cell 0
            have p1 := D6.out.cell 1
            have p2 := D6.out.cell 2
            have p3 := D6.out.cell 3
            have p4 := D6.out.cell 4
            obtain ⟨w99, hw⟩ : ∃ z, z = (((((w21.setCell ⟨K6, 0, none⟩ (.int .i64 (n : Int))).setCell ⟨K6, 1, none⟩ (.int .i64 (L : Int))).setCell ⟨K6, 2, none⟩ (.int .i64 (R : Int))).setCell ⟨K6, 3, none⟩ (.slice A1 hs.length c1)).setCell ⟨K6, 4, none⟩ (.slice A20 (Tp.setT (es) x y ((t : Int) + 1)).length c20)) := ⟨_, rfl⟩
            have D8 : Hid (Blk w99 K6 28 [.int .i64 (n : Int), .int .i64 (L : Int), .int .i64 (R : Int), .slice A1 hs.length c1, .slice A20 (Tp.setT (es) x y ((t : Int) + 1)).length c20]) := hid (by rw [hw]; exact put5_blk D6.out)
            have HB8 : Hid (Below w.heap.size w w99) := hid (by rw [hw]; exact put5_bel HB.out LO6.out)
            have SE8 := hid (put5_sl (a := .int .i64 (n : Int)) (b := .int .i64 (L : Int)) (c := .int .i64 (R : Int)) (d := .slice A1 hs.length c1) (e := .slice A20 (Tp.setT (es) x y ((t : Int) + 1)).length c20) SE.out OFF6.out)
            rw [← hw] at SE8
            have HW8 := hid hw
            clear hw
            go_wp2
            rw [← HW8.out]
            clear g0 g1 g2 g3 g4
            clear f0 f1 f2 f3 f4
            clear p0 p1 p2 p3 p4
            have e0 := D8.out.cell 0
            have e1 := D8.out.cell 1
            have e2 := D8.out.cell 2
            have e3 := D8.out.cell 3
            have e4 := D8.out.cell 4
            exact bodyPost_ret (v := .agg #[.int .i64 (n : Int), .int .i64 (L : Int), .int .i64 (R : Int), .slice A1 hs.length c1, .slice A20 (Tp.setT (es) x y ((t : Int) + 1)).length c20]) (by simp [results, Tryz.results56, go_sem, e0, e1, e2, e3, e4]) rfl ⟨_, rfl, by rw [HEQ.out]; exact SE8.out, fun K hK _ => OK20.out K (by have := BASE.out; omega), HB8.out⟩
          case pos =>
            go_wp2_with fail
            refine (path_ok hn1024 SF.out FST.out ⟨x1, x2⟩ ⟨y1, y2⟩ hcn).mono ?_; rintro e w7 ⟨v7, pp, rfl, hsm, s7, b7⟩
            clear g0 g1 g2 g3 g4
            clear k0 k1 k2
            replace DG := hid (DG.out.on b7)
            replace D6 := hid (D6.out.on b7)
            replace D7 := hid (D7.out.on b7)
            replace GM1 := hid (GM1.out.call b7)
            replace HB := hid (Bl.call HB.out b7)
            have SP := hid s7
            clear b7 s7 hcn SF
            obtain ⟨da, dl, hda, hdin, hrem⟩ := rem_some HP.out (List.mem_of_getElem? HIO.out) rfl hsm
            rw [hda] at SP
            clear hsm hda
            go_wp2_with fail
            refine (greatest_any SP.out).mono ?_; rintro e w8 ⟨rfl, b8⟩
            replace DG := hid (DG.out.on b8)
            replace D6 := hid (D6.out.on b8)
            replace D7 := hid (D7.out.on b8)
            replace GM1 := hid (GM1.out.call b8)
            replace HB := hid (Bl.call HB.out b8)
            clear b8 SP
            obtain ⟨HDT1, HDT2, HDT3, HDT4⟩ := set_facts HP.out hdin (t := 0) (by decide) (by decide)
            have hdok := HP.out.gd.in1 hdin
            generalize dl.foldl Tp.gre1 da = dd at *
            obtain ⟨dx, dy, dt⟩ := dd
            dsimp only at hrem HDT1 HDT2 HDT3 HDT4 hdok
            unfold Pt.InR at hdok
            obtain ⟨⟨dx1, dx2⟩, dy1, dy2⟩ := hdok
            obtain ⟨jd, hjd⟩ := HDT4
            have HEQ : Hid (es' = Tp.setT (Tp.setT es dx dy 0) x y ((t : Int) + 1)) := hid (by rw [HEN.out, hrem])
            have TAB2 := hid HDT1
            have FI2 : Hid (Tp.fiP (Pt.uv (Tp.setT es dx dy 0)) x y = some io) := hid (by rw [HDT2]; exact HFI.out)
            have LEN2 : Hid ((Tp.setT es dx dy 0).length ≤ 1000000) := hid (by rw [HDT3]; exact LEN.out)
            have FID := hid hjd
            clear HDT1 HDT2 HDT3 hjd hrem hdin
            have bz9 := bel_new w8 (.cells #[.int .i64 dx, .int .i64 dy, .int .i64 dt] 35)
            obtain ⟨w9, hw9⟩ : ∃ W, W = w8.alloc (.cells #[.int .i64 dx, .int .i64 dy, .int .i64 dt] 35) := ⟨_, rfl⟩
            obtain ⟨K13, hK13⟩ : ∃ K, K = w8.heap.size := ⟨_, rfl⟩
            have D13 : Hid (Blk w9 K13 35 [.int .i64 dx, .int .i64 dy, .int .i64 dt]) := hid (by rw [hw9, hK13]; exact Blk.new _ _ _)
            rw [← hw9] at bz9
            replace DG := hid (DG.out.on bz9)
            replace D6 := hid (D6.out.on bz9)
            replace D7 := hid (D7.out.on bz9)
            replace GM1 := hid (GM1.out.call bz9)
            replace HB := hid (Bl.call HB.out bz9)
            have HW9 := hid hw9
            have HK13 := hid hK13
            clear bz9 hw9 hK13
            have SLE := hid GM1.out.se
            go_upto_region 11 with (fail)
            rw [← HW9.out, ← HK13.out]
            have g0 := DG.out.cell 0
            have g1 := DG.out.cell 1
            have g2 := DG.out.cell 2
            have g3 := DG.out.cell 3
            have g4 := DG.out.cell 4
            have k0 := D13.out.cell 0
            have k1 := D13.out.cell 1
            have k2 := D13.out.cell 2
            go_wp2_with fail
            refine (tset_ok (n := (n : Int)) (l := es) (u := dx) (v := dy) (t := 0) SLE.out TAB.out dx1 dx2 dy1 dy2 (by decide) (by decide) FID.out LEN.out).mono ?_; rintro e w10 ⟨v10, rfl, o10, b10⟩
            obtain ⟨A10, c10, hv10, _, _, _, _⟩ := Sl.of_own o10
            subst hv10
            clear g0 g1 g2 g3 g4
            clear k0 k1 k2
            have HO10 := hid o10
            have BASE9 : Hid (w.heap.size ≤ w9.heap.size) := hid HB.out.size
            have KGL9 : Hid (KG < w9.heap.size) := hid DG.out.lt
            replace DG := hid (DG.out.on b10)
            replace D6 := hid (D6.out.on b10)
            replace D7 := hid (D7.out.on b10)
            replace HB := hid (Bl.call HB.out b10)
            obtain ⟨w11, hw11⟩ : ∃ z, z = w10.setCell ⟨KG, 4, none⟩ (.slice A10 (Tp.setT es dx dy 0).length c10) := ⟨_, rfl⟩
            have SLE2 : Hid (Sl w11 w11.heap.size 3 (.slice A10 (Tp.setT es dx dy 0).length c10) (Tp.setT es dx dy 0).length (eds (Tp.setT es dx dy 0))) := hid (by rw [hw11]; exact (Sl.of_own HO10.out).off (own_isOff HO10.out KGL9.out))
            have DG2 : Hid (Blk w11 KG 28 [.int .i64 (n : Int), .int .i64 (L : Int), .int .i64 (R : Int), .slice A1 hs.length c1, .slice A10 (Tp.setT es dx dy 0).length c10]) := hid (by rw [hw11]; exact DG.out.put 4 (.slice A10 (Tp.setT es dx dy 0).length c10))
            have D62 : Hid (Blk w11 K6 28 [.int .i64 0, .int .i64 0, .int .i64 0, .slice none 0 0, .slice none 0 0]) := hid (by rw [hw11]; exact D6.out.far (p := ⟨KG, 4, none⟩) NE6.out _)
            have D72 : Hid (Blk w11 K7 35 [.int .i64 x, .int .i64 y, .int .i64 0]) := hid (by rw [hw11]; exact D7.out.far (p := ⟨KG, 4, none⟩) (Ne.symm NE7.out) _)
            have HB2 : Hid (Below w.heap.size w w11) := hid (by rw [hw11]; exact HB.out.setCell (p := ⟨KG, 4, none⟩) LOG.out _)
            have HW11 := hid hw11
            clear o10 b10 hw11
            have g4 := DG.out.cell 4
            have f4 := DG.out.frozen 4
            go_upto_region 13 with (fail)
            rw [← HW11.out]
            clear g4 f4 DG D6 D7 HB GM1 D13 SLE
            have DG := DG2
            have D6 := D62
            have D7 := D72
            have HB := HB2
            clear DG2 D62 D72 HB2
            have g0 := DG.out.cell 0
            have g1 := DG.out.cell 1
            have g2 := DG.out.cell 2
            have g3 := DG.out.cell 3
            have g4 := DG.out.cell 4
            have k0 := D7.out.cell 0
            have k1 := D7.out.cell 1
            have k2 := D7.out.cell 2
            go_wp2_with fail
            refine (tset_ok (n := (n : Int)) (l := Tp.setT es dx dy 0) (u := x) (v := y) (t := (t : Int) + 1) SLE2.out TAB2.out x1 x2 y1 y2 ht0 hL16 FI2.out LEN2.out).mono ?_; rintro e w20 ⟨v20, rfl, o20, b20⟩
            clear g0 g1 g2 g3 g4
            clear k0 k1 k2
            obtain ⟨A20, c20, hv20, _, _, _, _⟩ := Sl.of_own o20
            subst hv20
            have HO := hid o20
            have BASE : Hid (w.heap.size ≤ w11.heap.size) := hid HB.out.size
            have KGL : Hid (KG < w11.heap.size) := hid DG.out.lt
            have K6L : Hid (K6 < w11.heap.size) := hid D6.out.lt
            replace DG := hid (DG.out.on b20)
            replace D6 := hid (D6.out.on b20)
            replace D7 := hid (D7.out.on b20)
            replace HB := hid (Bl.call HB.out b20)
            have OK20 : Hid (∀ K, K < w11.heap.size → Off K (.slice A20 (Tp.setT (Tp.setT es dx dy 0) x y ((t : Int) + 1)).length c20)) := hid (fun K hK => own_isOff HO.out hK)
            obtain ⟨w21, hw21⟩ : ∃ z, z = w20.setCell ⟨KG, 4, none⟩ (.slice A20 (Tp.setT (Tp.setT es dx dy 0) x y ((t : Int) + 1)).length c20) := ⟨_, rfl⟩
            have SE : Hid (Sl w21 w21.heap.size 3 (.slice A20 (Tp.setT (Tp.setT es dx dy 0) x y ((t : Int) + 1)).length c20) (Tp.setT (Tp.setT es dx dy 0) x y ((t : Int) + 1)).length (eds (Tp.setT (Tp.setT es dx dy 0) x y ((t : Int) + 1)))) := hid (by rw [hw21]; exact (Sl.of_own HO.out).off (OK20.out _ KGL.out))
            replace OFF6 := hid (OK20.out _ K6L.out)
            have DG2 : Hid (Blk w21 KG 28 [.int .i64 (n : Int), .int .i64 (L : Int), .int .i64 (R : Int), .slice A1 hs.length c1, .slice A20 (Tp.setT (Tp.setT es dx dy 0) x y ((t : Int) + 1)).length c20]) := hid (by rw [hw21]; exact DG.out.put 4 (.slice A20 (Tp.setT (Tp.setT es dx dy 0) x y ((t : Int) + 1)).length c20))
            have D62 : Hid (Blk w21 K6 28 [.int .i64 0, .int .i64 0, .int .i64 0, .slice none 0 0, .slice none 0 0]) := hid (by rw [hw21]; exact D6.out.far (p := ⟨KG, 4, none⟩) NE6.out _)
            have HB2 : Hid (Below w.heap.size w w21) := hid (by rw [hw21]; exact HB.out.setCell (p := ⟨KG, 4, none⟩) LOG.out _)
            have HW21 := hid hw21
            clear o20 b20 hw21
            have g4 := DG.out.cell 4
            have f4 := DG.out.frozen 4
            go_upto_region 14 with (fail)
            rw [← HW21.out]
            clear g4 f4 DG D6 D7 HB
            have DG := DG2
            have D6 := D62
            have HB := HB2
            clear DG2 D62 HB2
            have g0 := DG.out.cell 0
            have g1 := DG.out.cell 1
            have g2 := DG.out.cell 2
            have g3 := DG.out.cell 3
            have g4 := DG.out.cell 4
            have f0 := D6.out.frozen 0
            have f1 := D6.out.frozen 1
            have f2 := D6.out.frozen 2
            have f3 := D6.out.frozen 3
            have f4 := D6.out.frozen 4
            have p0 := D6.out.cell 0
            have p1 := D6.out.cell 1
            have p2 := D6.out.cell 2
            have p3 := D6.out.cell 3
            have p4 := D6.out.cell 4
            obtain ⟨w99, hw⟩ : ∃ z, z = (((((w21.setCell ⟨K6, 0, none⟩ (.int .i64 (n : Int))).setCell ⟨K6, 1, none⟩ (.int .i64 (L : Int))).setCell ⟨K6, 2, none⟩ (.int .i64 (R : Int))).setCell ⟨K6, 3, none⟩ (.slice A1 hs.length c1)).setCell ⟨K6, 4, none⟩ (.slice A20 (Tp.setT (Tp.setT es dx dy 0) x y ((t : Int) + 1)).length c20)) := ⟨_, rfl⟩
            have D8 : Hid (Blk w99 K6 28 [.int .i64 (n : Int), .int .i64 (L : Int), .int .i64 (R : Int), .slice A1 hs.length c1, .slice A20 (Tp.setT (Tp.setT es dx dy 0) x y ((t : Int) + 1)).length c20]) := hid (by rw [hw]; exact put5_blk D6.out)
            have HB8 : Hid (Below w.heap.size w w99) := hid (by rw [hw]; exact put5_bel HB.out LO6.out)
            have SE8 := hid (put5_sl (a := .int .i64 (n : Int)) (b := .int .i64 (L : Int)) (c := .int .i64 (R : Int)) (d := .slice A1 hs.length c1) (e := .slice A20 (Tp.setT (Tp.setT es dx dy 0) x y ((t : Int) + 1)).length c20) SE.out OFF6.out)
            rw [← hw] at SE8
            have HW8 := hid hw
            clear hw
            go_wp2
            rw [← HW8.out]
            clear g0 g1 g2 g3 g4
            clear f0 f1 f2 f3 f4
            clear p0 p1 p2 p3 p4
            have e0 := D8.out.cell 0
            have e1 := D8.out.cell 1
            have e2 := D8.out.cell 2
            have e3 := D8.out.cell 3
            have e4 := D8.out.cell 4
            exact bodyPost_ret (v := .agg #[.int .i64 (n : Int), .int .i64 (L : Int), .int .i64 (R : Int), .slice A1 hs.length c1, .slice A20 (Tp.setT (Tp.setT es dx dy 0) x y ((t : Int) + 1)).length c20]) (by simp [results, Tryz.results56, go_sem, e0, e1, e2, e3, e4]) rfl ⟨_, rfl, by rw [HEQ.out]; exact SE8.out, fun K hK _ => OK20.out K (by have := BASE.out; omega), HB8.out⟩
end
section
variable {n L R : Nat} {hs : List (Nat × Nat)} {es : List (Int × Int × Int)} {vh ve : Value} {w : World}
theorem uv_len {a b : List (Int × Int × Int)} (h : Pt.uv a = Pt.uv b) : a.length = b.length := by
  have := congrArg List.length h
  simpa [Pt.uv] using this
theorem GP.raised (hp : GP n L R hs es) {t : Nat} (ht : t < L) {v : Int} (hv : Pt.InR n v) {S : Nat → List (Int × Int) → Option Nat} (hS : Tp.SOk S) : GP n L R hs (Tp.raisedF n L S es t v) := by
  have hl := hp.l2
  have hlen := uv_len (Tp.raised_uv hp.gd (t := t) (by omega) hv hS)
  exact ⟨hp.n1, hp.n2, hp.l1, hp.l2, hp.r1, hp.r2, hp.hl, hp.hh, hp.gd.raised (by omega) (by omega) hv hS, by rw [hlen]; exact hp.el⟩
theorem GP.mend (hp : GP n L R hs es) {u v : Int} (hu : Pt.InR n u) (hv : Pt.InR n v) {S : Nat → List (Int × Int) → Option Nat} (hS : Tp.SOk S) (T : Nat) (hT : T ≤ L) : GP n L R hs (Tp.mendF n L S es u v T) := by
  have hl := hp.l2
  have hlen := uv_len (Tp.mend_uv hp.gd (by omega) hS hu hv T hT)
  exact ⟨hp.n1, hp.n2, hp.l1, hp.l2, hp.r1, hp.r2, hp.hl, hp.hh, hp.gd.mend (by omega) hS hu hv T (by omega), by rw [hlen]; exact hp.el⟩
theorem GP.add (hp : GP n L R hs es) {u v : Int} (hu : Pt.InR n u) (hv : Pt.InR n v) (huv : u ≠ v) (hf : Tp.fiP (Pt.uv es) u v = none) (hl : es.length ≤ 999) : GP n L R hs (Tp.addF es u v) := by
  refine ⟨hp.n1, hp.n2, hp.l1, hp.l2, hp.r1, hp.r2, hp.hl, hp.hh, hp.gd.add hu hv huv hf (by omega), ?_⟩
  unfold Tp.addF
  have := congrArg List.length (List.takeWhile_append_dropWhile (p := fun e => Tp.lsB e (Tp.newE u v)) (l := es))
  rw [List.length_append] at this ⊢
  rw [List.length_cons]; omega
theorem GP.del (hp : GP n L R hs es) (i : Nat) : GP n L R hs (es.eraseIdx i) := by
  refine ⟨hp.n1, hp.n2, hp.l1, hp.l2, hp.r1, hp.r2, hp.hl, hp.hh, hp.gd.del i, ?_⟩
  have := (List.eraseIdx_sublist es i).length_le
  have := hp.el; omega
set_option maxHeartbeats 32000000 in
set_option maxRecDepth 100000 in
theorem mended_ok (hm : GM w vh ve hs es) (hp : GP n L R hs es) {u v : Int} (u1 : 0 ≤ u) (u2 : u < (n : Int)) (v1 : 0 ≤ v) (v2 : v < (n : Int)) :
    Calls Tryz.prog 30 #[grV n L R vh ve, .int .i64 u, .int .i64 v] w (RaPost n L R vh ve (Tp.mendF n L (Tp.Sof hs R (lvl n) L) es u v L) w) := by
  have S0 := hid hm.se
  have SH0 := hid hm.sh
  obtain ⟨A1, c1, A2, c2, rfl, rfl⟩ := hm.lit
  unfold grV
  obtain ⟨KG, hKG⟩ : ∃ K, K = w.heap.size := ⟨_, rfl⟩
  obtain ⟨w1, hw1⟩ : ∃ W, W = w.alloc (.cells #[.int .i64 (n : Int), .int .i64 (L : Int), .int .i64 (R : Int), .slice A1 hs.length c1, .slice A2 es.length c2] 28) := ⟨_, rfl⟩
  have HB : Hid (Below w.heap.size w w1) := hid (by rw [hw1]; exact bel_new _ _)
  have DG : Hid (Blk w1 KG 28 [.int .i64 (n : Int), .int .i64 (L : Int), .int .i64 (R : Int), .slice A1 hs.length c1, .slice A2 es.length c2]) := hid (by rw [hw1, hKG]; exact Blk.new _ _ _)
  have GM1 : Hid (GM w1 (.slice A1 hs.length c1) (.slice A2 es.length c2) hs es) := hid (by rw [hw1]; exact hm.new _)
  have HP := hid hp
  have HW := hid hw1
  have HKG := hid hKG
  have hn12 : n ≤ 12 := hp.n2
  have hL4 : L ≤ 4 := hp.l2
  have hR3 : R ≤ 3 := hp.r2
  clear hm hp hw1 hKG
  obtain ⟨w2, hw2⟩ : ∃ W, W = w1.alloc (.cells #[.int .i64 0, .int .i64 0, .int .i64 0, .slice none 0 0, .slice none 0 0] 28) := ⟨_, rfl⟩
  obtain ⟨K6, hK6⟩ : ∃ K, K = KG + 1 := ⟨_, rfl⟩
  have hsz1 : w1.heap.size = KG + 1 := by rw [HW.out, HKG.out]; simp
  have b12 : Below w1.heap.size w1 w2 := by rw [hw2]; exact bel_new _ _
  replace HB := hid (Bl.call HB.out b12)
  replace DG := hid (DG.out.below b12 DG.out.lt)
  replace GM1 := hid (GM1.out.call b12)
  have D6 : Hid (Blk w2 K6 28 [.int .i64 0, .int .i64 0, .int .i64 0, .slice none 0 0, .slice none 0 0]) := hid (by rw [hw2, hK6, ← hsz1]; exact Blk.new _ _ _)
  have LOG : Hid (w.heap.size ≤ KG) := hid (by rw [HKG.out]; exact Nat.le_refl _)
  have LO6 : Hid (w.heap.size ≤ K6) := hid (by rw [hK6, HKG.out]; omega)
  have NE6 : Hid (K6 ≠ KG) := hid (by omega)
  have HW2 := hid hw2
  have HK6 := hid hK6
  clear b12 hw2 hK6 hsz1
  have OFF6 : Hid (Off K6 (.slice A2 es.length c2)) := hid (S0.out.isOff LO6.out)
  have OFFG : Hid (Off KG (.slice A2 es.length c2)) := hid (S0.out.isOff LOG.out)
  have OFFH : Hid (Off KG (.slice A1 hs.length c1)) := hid (SH0.out.isOff LOG.out)
  obtain ⟨S, hS⟩ : ∃ S, S = Tp.Sof hs R (lvl n) L := ⟨_, rfl⟩
  have HSO : Hid (Tp.SOk S) := hid (by rw [hS]; exact Tp.Sof_ok _ _ _ _)
  have RC : Hid (∀ {w : World} {vh ve : Value} {es : List (Int × Int × Int)} {t : Nat} {v : Int}, GM w vh ve hs es → GP n L R hs es → t < L → 0 ≤ v → v < (n : Int) → Calls Tryz.prog 56 #[grV n L R vh ve, .int .i64 (t : Int), .int .i64 v] w (RaPost n L R vh ve (Tp.raisedF n L S es t v) w)) := hid (fun h1 h2 h3 h4 h5 => by rw [hS]; exact raised_ok h1 h2 h3 h4 h5)
  rw [← hS]
  clear hS
  have HIU : Hid (Pt.InR n u) := hid ⟨u1, u2⟩
  have HIV : Hid (Pt.InR n v) := hid ⟨v1, v2⟩
  obtain ⟨MF, hMF⟩ : ∃ f : Nat → List (Int × Int × Int), f = Tp.mendF n L S es u v := ⟨_, rfl⟩
  have MF0 : Hid (MF 0 = es) := hid (by rw [hMF]; rfl)
  have MFS : Hid (∀ t, MF (t + 1) = Tp.raisedF n L S (Tp.raisedF n L S (MF t) t u) t v) := hid (fun t => by rw [hMF]; rfl)
  have MGP : Hid (∀ t, t ≤ L → GP n L R hs (MF t)) := hid (fun t ht => by rw [hMF]; exact HP.out.mend HIU.out HIV.out HSO.out t ht)
  have MFL : Hid (Tp.mendF n L S es u v L = MF L) := hid (by rw [hMF])
  clear hMF
  have g0 := DG.out.cell 0
  have g1 := DG.out.cell 1
  have g2 := DG.out.cell 2
  have g3 := DG.out.cell 3
  have g4 := DG.out.cell 4
  go_enter Tryz.func30, Tryz.ntmps30
  go_upto_region 1 with (fail)
  rw [← HW.out, ← HKG.out, ← HK6.out, ← HW2.out]
  go_wp2_with fail
  go_loopw [11] (fun iv wr => ∃ (t k : Nat) (A : Option Addr) (c : Nat), iv = .int .i64 (t : Int) ∧ t ≤ L ∧ Hid ((MF t).length = k) ∧ Hid (Blk wr KG 28 [.int .i64 (n : Int), .int .i64 (L : Int), .int .i64 (R : Int), .slice A1 hs.length c1, .slice A k c]) ∧ Hid (Sl wr wr.heap.size 3 (.slice A k c) k (eds (MF t))) ∧ Hid (Sl wr wr.heap.size 2 (.slice A1 hs.length c1) hs.length (hcs hs)) ∧ Hid (Blk wr K6 28 [.int .i64 0, .int .i64 0, .int .i64 0, .slice none 0 0, .slice none 0 0]) ∧ Hid (Off K6 (.slice A k c)) ∧ Hid (Off KG (.slice A k c)) ∧ Hid (∀ K, K < w.heap.size → Off K (.slice A2 es.length c2) → Off K (.slice A k c)) ∧ Hid (Below w.heap.size w wr)) (fun iv _ => L - (intOf iv).toNat)
  case atStart => exact ⟨0, es.length, A2, c2, rfl, Nat.zero_le _, hid (by rw [MF0.out]), DG, hid (by rw [MF0.out]; exact GM1.out.se), hid GM1.out.sh, D6, OFF6, OFFG, hid (fun _ _ h => h), HB⟩
  case round =>
    clear DG GM1 D6 OFF6 OFFG HB g0 g1 g2 g3 g4
    obtain ⟨t, k, A, c, rfl, hti, HK, DG, SE, SH, D6, OFF6, OFFG, OFFN, HB⟩ := hrel
    by_cases hlt : t < L
    case pos =>
      have j0 : (t : Int) < (L : Int) := by omega
      have HPt := hid (MGP.out t (by omega))
      have GMt : Hid (GM wr (.slice A1 hs.length c1) (.slice A k c) hs (MF t)) := hid ⟨SH.out, by rw [show (MF t).length = k from HK.out]; exact SE.out⟩
      have g0 := DG.out.cell 0
      have g1 := DG.out.cell 1
      have g2 := DG.out.cell 2
      have g3 := DG.out.cell 3
      have g4 := DG.out.cell 4
      go_wp2_with fail
      refine (RC.out GMt.out HPt.out hlt u1 u2).mono ?_; rintro e wa1 ⟨va1, rfl, sa, ofa, ba⟩
      clear g0 g1 g2 g3 g4
      obtain ⟨k1, hk1⟩ : ∃ k, (Tp.raisedF n L S (MF t) t u).length = k := ⟨_, rfl⟩
      rw [hk1] at sa
      obtain ⟨Aa1, ca1, hva, _, _, _, _⟩ := id sa
      subst hva
      have HK1 := hid hk1
      have SA := hid sa
      have KGL : KG < wr.heap.size := DG.out.lt
      have K6L : K6 < wr.heap.size := D6.out.lt
      have WL : w.heap.size ≤ wr.heap.size := HB.out.size
      replace OFF6 : Hid (Off K6 (.slice Aa1 k1 ca1)) := hid (ofa _ K6L OFF6.out)
      replace OFFG : Hid (Off KG (.slice Aa1 k1 ca1)) := hid (ofa _ KGL OFFG.out)
      replace OFFN : Hid (∀ K, K < w.heap.size → Off K (.slice A2 es.length c2) → Off K (.slice Aa1 k1 ca1)) := hid (fun K hK h => ofa K (by omega) (OFFN.out K hK h))
      replace DG := hid (DG.out.on ba)
      replace D6 := hid (D6.out.on ba)
      replace SH := hid (SH.out.call ba)
      replace HB := hid (Bl.call HB.out ba)
      clear sa ba ofa GMt SE hk1 KGL K6L WL
      obtain ⟨wb1, hw⟩ : ∃ z, z = (((((wa1.setCell ⟨KG, 0, none⟩ (.int .i64 (n : Int))).setCell ⟨KG, 1, none⟩ (.int .i64 (L : Int))).setCell ⟨KG, 2, none⟩ (.int .i64 (R : Int))).setCell ⟨KG, 3, none⟩ (.slice A1 hs.length c1)).setCell ⟨KG, 4, none⟩ (.slice Aa1 k1 ca1)) := ⟨_, rfl⟩
      have DG2 : Hid (Blk wb1 KG 28 [.int .i64 (n : Int), .int .i64 (L : Int), .int .i64 (R : Int), .slice A1 hs.length c1, .slice Aa1 k1 ca1]) := hid (by rw [hw]; exact put5_blk DG.out)
      have D62 : Hid (Blk wb1 K6 28 [.int .i64 0, .int .i64 0, .int .i64 0, .slice none 0 0, .slice none 0 0]) := hid (by rw [hw]; exact put5_far D6.out NE6.out)
      have HB2 : Hid (Below w.heap.size w wb1) := hid (by rw [hw]; exact put5_bel HB.out LOG.out)
      have SE : Hid (Sl wb1 wb1.heap.size 3 (.slice Aa1 k1 ca1) k1 (eds (Tp.raisedF n L S (MF t) t u))) := hid (by rw [hw]; exact put5_sl SA.out OFFG.out)
      have SH2 : Hid (Sl wb1 wb1.heap.size 2 (.slice A1 hs.length c1) hs.length (hcs hs)) := hid (by rw [hw]; exact put5_sl SH.out OFFH.out)
      have HWB1 := hid hw
      clear hw SA
      have f0 := DG.out.frozen 0
      have f1 := DG.out.frozen 1
      have f2 := DG.out.frozen 2
      have f3 := DG.out.frozen 3
      have f4 := DG.out.frozen 4
      have g0 := DG.out.cell 0
      have g1 := DG.out.cell 1
      have g2 := DG.out.cell 2
      have g3 := DG.out.cell 3
      have g4 := DG.out.cell 4
      go_upto_region 5 with (fail)
      rw [← HWB1.out]
      clear f0 f1 f2 f3 f4
      clear g0 g1 g2 g3 g4
      clear DG D6 HB SH
      have DG := DG2
      have D6 := D62
      have HB := HB2
      have SH := SH2
      clear DG2 D62 HB2 SH2
      replace HPt := hid (HPt.out.raised hlt HIU.out HSO.out)
      have GMt : Hid (GM wb1 (.slice A1 hs.length c1) (.slice Aa1 k1 ca1) hs (Tp.raisedF n L S (MF t) t u)) := hid ⟨SH.out, by rw [show (Tp.raisedF n L S (MF t) t u).length = k1 from HK1.out]; exact SE.out⟩
      have g0 := DG.out.cell 0
      have g1 := DG.out.cell 1
      have g2 := DG.out.cell 2
      have g3 := DG.out.cell 3
      have g4 := DG.out.cell 4
      go_wp2_with fail
      refine (RC.out GMt.out HPt.out hlt v1 v2).mono ?_; rintro e wa2 ⟨va2, rfl, sa, ofa, ba⟩
      clear g0 g1 g2 g3 g4
      obtain ⟨k2, hk2⟩ : ∃ k, (Tp.raisedF n L S (Tp.raisedF n L S (MF t) t u) t v).length = k := ⟨_, rfl⟩
      rw [hk2] at sa
      obtain ⟨Aa2, ca2, hva, _, _, _, _⟩ := id sa
      subst hva
      have HK2 := hid hk2
      have SA := hid sa
      have KGL : KG < wb1.heap.size := DG.out.lt
      have K6L : K6 < wb1.heap.size := D6.out.lt
      have WL : w.heap.size ≤ wb1.heap.size := HB.out.size
      replace OFF6 : Hid (Off K6 (.slice Aa2 k2 ca2)) := hid (ofa _ K6L OFF6.out)
      replace OFFG : Hid (Off KG (.slice Aa2 k2 ca2)) := hid (ofa _ KGL OFFG.out)
      replace OFFN : Hid (∀ K, K < w.heap.size → Off K (.slice A2 es.length c2) → Off K (.slice Aa2 k2 ca2)) := hid (fun K hK h => ofa K (by omega) (OFFN.out K hK h))
      replace DG := hid (DG.out.on ba)
      replace D6 := hid (D6.out.on ba)
      replace SH := hid (SH.out.call ba)
      replace HB := hid (Bl.call HB.out ba)
      clear sa ba ofa GMt SE hk2 KGL K6L WL
      obtain ⟨wb2, hw⟩ : ∃ z, z = (((((wa2.setCell ⟨KG, 0, none⟩ (.int .i64 (n : Int))).setCell ⟨KG, 1, none⟩ (.int .i64 (L : Int))).setCell ⟨KG, 2, none⟩ (.int .i64 (R : Int))).setCell ⟨KG, 3, none⟩ (.slice A1 hs.length c1)).setCell ⟨KG, 4, none⟩ (.slice Aa2 k2 ca2)) := ⟨_, rfl⟩
      have DG2 : Hid (Blk wb2 KG 28 [.int .i64 (n : Int), .int .i64 (L : Int), .int .i64 (R : Int), .slice A1 hs.length c1, .slice Aa2 k2 ca2]) := hid (by rw [hw]; exact put5_blk DG.out)
      have D62 : Hid (Blk wb2 K6 28 [.int .i64 0, .int .i64 0, .int .i64 0, .slice none 0 0, .slice none 0 0]) := hid (by rw [hw]; exact put5_far D6.out NE6.out)
      have HB2 : Hid (Below w.heap.size w wb2) := hid (by rw [hw]; exact put5_bel HB.out LOG.out)
      have SE : Hid (Sl wb2 wb2.heap.size 3 (.slice Aa2 k2 ca2) k2 (eds (Tp.raisedF n L S (Tp.raisedF n L S (MF t) t u) t v))) := hid (by rw [hw]; exact put5_sl SA.out OFFG.out)
      have SH2 : Hid (Sl wb2 wb2.heap.size 2 (.slice A1 hs.length c1) hs.length (hcs hs)) := hid (by rw [hw]; exact put5_sl SH.out OFFH.out)
      have HWB2 := hid hw
      clear hw SA
      have f0 := DG.out.frozen 0
      have f1 := DG.out.frozen 1
      have f2 := DG.out.frozen 2
      have f3 := DG.out.frozen 3
      have f4 := DG.out.frozen 4
      have g0 := DG.out.cell 0
      have g1 := DG.out.cell 1
      have g2 := DG.out.cell 2
      have g3 := DG.out.cell 3
      have g4 := DG.out.cell 4
      go_wp2
      rw [← HWB2.out]
      clear f0 f1 f2 f3 f4
      clear g0 g1 g2 g3 g4
      clear DG D6 HB SH
      have DG := DG2
      have D6 := D62
      have HB := HB2
      have SH := SH2
      clear DG2 D62 HB2 SH2
      rw [← MFS.out] at SE HK2
      go_roundw
      case rel => exact ⟨t + 1, k2, Aa2, ca2, by go_num, by omega, HK2, DG, SE, SH, D6, OFF6, OFFG, OFFN, HB⟩
      case measure => simp [intOf]; omega
    case neg =>
      have j0 : ¬ (t : Int) < (L : Int) := by omega
      obtain rfl : L = t := by omega
      have g0 := DG.out.cell 0
      have g1 := DG.out.cell 1
      have g2 := DG.out.cell 2
      have g3 := DG.out.cell 3
      have g4 := DG.out.cell 4
      have f0 := D6.out.frozen 0
      have f1 := D6.out.frozen 1
      have f2 := D6.out.frozen 2
      have f3 := D6.out.frozen 3
      have f4 := D6.out.frozen 4
      have p0 := D6.out.cell 0
      have p1 := D6.out.cell 1
      have p2 := D6.out.cell 2
      have p3 := D6.out.cell 3
      have p4 := D6.out.cell 4
      obtain ⟨w99, hw⟩ : ∃ z, z = (((((wr.setCell ⟨K6, 0, none⟩ (.int .i64 (n : Int))).setCell ⟨K6, 1, none⟩ (.int .i64 (L : Int))).setCell ⟨K6, 2, none⟩ (.int .i64 (R : Int))).setCell ⟨K6, 3, none⟩ (.slice A1 hs.length c1)).setCell ⟨K6, 4, none⟩ (.slice A k c)) := ⟨_, rfl⟩
      have D8 : Hid (Blk w99 K6 28 [.int .i64 (n : Int), .int .i64 (L : Int), .int .i64 (R : Int), .slice A1 hs.length c1, .slice A k c]) := hid (by rw [hw]; exact put5_blk D6.out)
      have HB8 : Hid (Below w.heap.size w w99) := hid (by rw [hw]; exact put5_bel HB.out LO6.out)
      have SE8 := hid (put5_sl (a := .int .i64 (n : Int)) (b := .int .i64 (L : Int)) (c := .int .i64 (R : Int)) (d := .slice A1 hs.length c1) (e := .slice A k c) SE.out OFF6.out)
      rw [← hw] at SE8
      have HW8 := hid hw
      clear hw
      go_wp2
      rw [← HW8.out]
      clear g0 g1 g2 g3 g4
      clear f0 f1 f2 f3 f4
      clear p0 p1 p2 p3 p4
      have e0 := D8.out.cell 0
      have e1 := D8.out.cell 1
      have e2 := D8.out.cell 2
      have e3 := D8.out.cell 3
      have e4 := D8.out.cell 4
      exact bodyPost_ret (v := .agg #[.int .i64 (n : Int), .int .i64 (L : Int), .int .i64 (R : Int), .slice A1 hs.length c1, .slice A k c]) (by simp [results, Tryz.results30, go_sem, e0, e1, e2, e3, e4]) rfl ⟨_, rfl, by rw [MFL.out, HK.out]; exact SE8.out, OFFN.out, HB8.out⟩
def ActPost (n L R : Nat) (vh ve : Value) (es es' : List (Int × Int × Int)) (w : World) (e : Ending) (w' : World) : Prop :=
  ∃ v' err, e = .returned (.tuple #[.agg #[.int .i64 (n : Int), .int .i64 (L : Int), .int .i64 (R : Int), vh, v'], .int .i64 err]) ∧ (err = 0 ∨ es' = es) ∧ Sl w' w'.heap.size 3 v' es'.length (eds es') ∧ (∀ K, K < w.heap.size → Off K ve → Off K v') ∧ Below w.heap.size w w'
set_option maxHeartbeats 32000000 in
set_option maxRecDepth 100000 in
theorem tInsert_ok (hm : GM w vh ve hs es) (hp : GP n L R hs es) (hel : es.length ≤ 999) (u v : Int) :
    Calls Tryz.prog 16 #[grV n L R vh ve, .int .i64 u, .int .i64 v] w (ActPost n L R vh ve es (Tp.insF n L (Tp.Sof hs R (lvl n) L) es u v) w) := by
  have S0 := hid hm.se
  have SH0 := hid hm.sh
  obtain ⟨A1, c1, A2, c2, rfl, rfl⟩ := hm.lit
  unfold grV
  obtain ⟨KG, hKG⟩ : ∃ K, K = w.heap.size := ⟨_, rfl⟩
  obtain ⟨w1, hw1⟩ : ∃ W, W = w.alloc (.cells #[.int .i64 (n : Int), .int .i64 (L : Int), .int .i64 (R : Int), .slice A1 hs.length c1, .slice A2 es.length c2] 28) := ⟨_, rfl⟩
  have HB : Hid (Below w.heap.size w w1) := hid (by rw [hw1]; exact bel_new _ _)
  have DG : Hid (Blk w1 KG 28 [.int .i64 (n : Int), .int .i64 (L : Int), .int .i64 (R : Int), .slice A1 hs.length c1, .slice A2 es.length c2]) := hid (by rw [hw1, hKG]; exact Blk.new _ _ _)
  have GM1 : Hid (GM w1 (.slice A1 hs.length c1) (.slice A2 es.length c2) hs es) := hid (by rw [hw1]; exact hm.new _)
  have HP := hid hp
  have HW := hid hw1
  have HKG := hid hKG
  have hn12 : n ≤ 12 := hp.n2
  have hL4 : L ≤ 4 := hp.l2
  have hR3 : R ≤ 3 := hp.r2
  clear hm hp hw1 hKG
  obtain ⟨w2, hw2⟩ : ∃ W, W = w1.alloc (.cells #[.int .i64 0, .int .i64 0, .int .i64 0, .slice none 0 0, .slice none 0 0] 28) := ⟨_, rfl⟩
  obtain ⟨K6, hK6⟩ : ∃ K, K = KG + 1 := ⟨_, rfl⟩
  have hsz1 : w1.heap.size = KG + 1 := by rw [HW.out, HKG.out]; simp
  have b12 : Below w1.heap.size w1 w2 := by rw [hw2]; exact bel_new _ _
  replace HB := hid (Bl.call HB.out b12)
  replace DG := hid (DG.out.below b12 DG.out.lt)
  replace GM1 := hid (GM1.out.call b12)
  have D6 : Hid (Blk w2 K6 28 [.int .i64 0, .int .i64 0, .int .i64 0, .slice none 0 0, .slice none 0 0]) := hid (by rw [hw2, hK6, ← hsz1]; exact Blk.new _ _ _)
  have LOG : Hid (w.heap.size ≤ KG) := hid (by rw [HKG.out]; exact Nat.le_refl _)
  have LO6 : Hid (w.heap.size ≤ K6) := hid (by rw [hK6, HKG.out]; omega)
  have NE6 : Hid (K6 ≠ KG) := hid (by omega)
  have HW2 := hid hw2
  have HK6 := hid hK6
  clear b12 hw2 hK6 hsz1
  have OFF6 : Hid (Off K6 (.slice A2 es.length c2)) := hid (S0.out.isOff LO6.out)
  have OFFH : Hid (Off KG (.slice A1 hs.length c1)) := hid (SH0.out.isOff LOG.out)
  have OFFH : Hid (Off KG (.slice A1 hs.length c1)) := hid (SH0.out.isOff LOG.out)
  have OFFG : Hid (Off KG (.slice A2 es.length c2)) := hid (S0.out.isOff LOG.out)
  obtain ⟨S, hS⟩ : ∃ S, S = Tp.Sof hs R (lvl n) L := ⟨_, rfl⟩
  have RC : Hid (∀ {w : World} {vh ve : Value} {es : List (Int × Int × Int)} {u v : Int}, GM w vh ve hs es → GP n L R hs es → 0 ≤ u → u < (n : Int) → 0 ≤ v → v < (n : Int) → Calls Tryz.prog 30 #[grV n L R vh ve, .int .i64 u, .int .i64 v] w (RaPost n L R vh ve (Tp.mendF n L S es u v L) w)) := hid (fun h1 h2 h3 h4 h5 h6 => by rw [hS]; exact mended_ok h1 h2 h3 h4 h5 h6)
  rw [← hS]
  clear hS
  have HEL := hid hel
  have LEN : Hid (es.length ≤ 1000) := hid HP.out.el
  have TAB := hid HP.out.tab
  clear hel
  obtain ⟨es', hes⟩ : ∃ es', es' = Tp.insF n L S es u v := ⟨_, rfl⟩
  rw [← hes]
  have HES := hid hes
  clear hes
  by_cases hin : Pt.InR n u ∧ Pt.InR n v
  case neg =>
    have HEE : Hid (es' = es) := hid (by rw [HES.out]; unfold Tp.insF; rw [if_neg (by intro h; exact hin ⟨h.1, h.2.1⟩)])
    have g0 := DG.out.cell 0
    have g1 := DG.out.cell 1
    have g2 := DG.out.cell 2
    have g3 := DG.out.cell 3
    have g4 := DG.out.cell 4
    go_enter Tryz.func16, Tryz.ntmps16
    go_upto_region 1 with (fail)
    rw [← HW.out, ← HKG.out, ← HK6.out, ← HW2.out]
    go_wp2_with fail
    refine (tfits_is GM1.out HP.out false ⟨fun h => absurd h hin, fun h => by cases h⟩).mono ?_; rintro e w4 ⟨rfl, b4⟩
    clear g0 g1 g2 g3 g4
    replace DG := hid (DG.out.on b4)
    replace D6 := hid (D6.out.on b4)
    replace GM1 := hid (GM1.out.call b4)
    replace HB := hid (Bl.call HB.out b4)
    clear b4
    have SE := hid GM1.out.se
    clear hin
    have g0 := DG.out.cell 0
    have g1 := DG.out.cell 1
    have g2 := DG.out.cell 2
    have g3 := DG.out.cell 3
    have g4 := DG.out.cell 4
    have f0 := D6.out.frozen 0
    have f1 := D6.out.frozen 1
    have f2 := D6.out.frozen 2
    have f3 := D6.out.frozen 3
    have f4 := D6.out.frozen 4
    have p0 := D6.out.cell 0
    have p1 := D6.out.cell 1
    have p2 := D6.out.cell 2
    have p3 := D6.out.cell 3
    have p4 := D6.out.cell 4
    obtain ⟨w99, hw⟩ : ∃ z, z = (((((w4.setCell ⟨K6, 0, none⟩ (.int .i64 (n : Int))).setCell ⟨K6, 1, none⟩ (.int .i64 (L : Int))).setCell ⟨K6, 2, none⟩ (.int .i64 (R : Int))).setCell ⟨K6, 3, none⟩ (.slice A1 hs.length c1)).setCell ⟨K6, 4, none⟩ (.slice A2 es.length c2)) := ⟨_, rfl⟩
    have D8 : Hid (Blk w99 K6 28 [.int .i64 (n : Int), .int .i64 (L : Int), .int .i64 (R : Int), .slice A1 hs.length c1, .slice A2 es.length c2]) := hid (by rw [hw]; exact put5_blk D6.out)
    have HB8 : Hid (Below w.heap.size w w99) := hid (by rw [hw]; exact put5_bel HB.out LO6.out)
    have SE8 := hid (put5_sl (a := .int .i64 (n : Int)) (b := .int .i64 (L : Int)) (c := .int .i64 (R : Int)) (d := .slice A1 hs.length c1) (e := .slice A2 es.length c2) SE.out OFF6.out)
    rw [← hw] at SE8
    have HW8 := hid hw
    clear hw
    go_wp2
    rw [← HW8.out]
    clear g0 g1 g2 g3 g4
    clear f0 f1 f2 f3 f4
    clear p0 p1 p2 p3 p4
    have e0 := D8.out.cell 0
    have e1 := D8.out.cell 1
    have e2 := D8.out.cell 2
    have e3 := D8.out.cell 3
    have e4 := D8.out.cell 4
    exact bodyPost_ret (v := .tuple #[.agg #[.int .i64 (n : Int), .int .i64 (L : Int), .int .i64 (R : Int), .slice A1 hs.length c1, .slice A2 es.length c2], .int .i64 1]) (by simp [results, Tryz.results16, go_sem, e0, e1, e2, e3, e4]) rfl ⟨_, _, rfl, .inr HEE.out, by rw [HEE.out]; exact SE8.out, fun _ _ h => h, HB8.out⟩
  case pos =>
    have HIN := hid hin
    obtain ⟨⟨u1, u2⟩, v1, v2⟩ := hin
    by_cases huv : u = v
    case pos =>
      have HEE : Hid (es' = es) := hid (by rw [HES.out]; unfold Tp.insF; rw [if_neg (by intro h; exact h.2.2.1 huv)])
      subst huv
      have g0 := DG.out.cell 0
      have g1 := DG.out.cell 1
      have g2 := DG.out.cell 2
      have g3 := DG.out.cell 3
      have g4 := DG.out.cell 4
      go_enter Tryz.func16, Tryz.ntmps16
      go_upto_region 1 with (fail)
      rw [← HW.out, ← HKG.out, ← HK6.out, ← HW2.out]
      go_wp2_with fail
      refine (tfits_is GM1.out HP.out true ⟨fun _ => rfl, fun _ => HIN.out⟩).mono ?_; rintro e w4 ⟨rfl, b4⟩
      clear g0 g1 g2 g3 g4
      replace DG := hid (DG.out.on b4)
      replace D6 := hid (D6.out.on b4)
      replace GM1 := hid (GM1.out.call b4)
      replace HB := hid (Bl.call HB.out b4)
      clear b4
      have g0 := DG.out.cell 0
      have g1 := DG.out.cell 1
      have g2 := DG.out.cell 2
      have g3 := DG.out.cell 3
      have g4 := DG.out.cell 4
      go_wp2_with fail
      refine (tadd_loop GM1.out.se TAB.out u1 u2).mono ?_; rintro e w5 ⟨rfl, b5⟩
      clear g0 g1 g2 g3 g4
      replace DG := hid (DG.out.on b5)
      replace D6 := hid (D6.out.on b5)
      replace GM1 := hid (GM1.out.call b5)
      replace HB := hid (Bl.call HB.out b5)
      clear b5
      have SE := hid GM1.out.se
      have g0 := DG.out.cell 0
      have g1 := DG.out.cell 1
      have g2 := DG.out.cell 2
      have g3 := DG.out.cell 3
      have g4 := DG.out.cell 4
      have f0 := D6.out.frozen 0
      have f1 := D6.out.frozen 1
      have f2 := D6.out.frozen 2
      have f3 := D6.out.frozen 3
      have f4 := D6.out.frozen 4
      have p0 := D6.out.cell 0
      have p1 := D6.out.cell 1
      have p2 := D6.out.cell 2
      have p3 := D6.out.cell 3
      have p4 := D6.out.cell 4
      obtain ⟨w99, hw⟩ : ∃ z, z = (((((w5.setCell ⟨K6, 0, none⟩ (.int .i64 (n : Int))).setCell ⟨K6, 1, none⟩ (.int .i64 (L : Int))).setCell ⟨K6, 2, none⟩ (.int .i64 (R : Int))).setCell ⟨K6, 3, none⟩ (.slice A1 hs.length c1)).setCell ⟨K6, 4, none⟩ (.slice A2 es.length c2)) := ⟨_, rfl⟩
      have D8 : Hid (Blk w99 K6 28 [.int .i64 (n : Int), .int .i64 (L : Int), .int .i64 (R : Int), .slice A1 hs.length c1, .slice A2 es.length c2]) := hid (by rw [hw]; exact put5_blk D6.out)
      have HB8 : Hid (Below w.heap.size w w99) := hid (by rw [hw]; exact put5_bel HB.out LO6.out)
      have SE8 := hid (put5_sl (a := .int .i64 (n : Int)) (b := .int .i64 (L : Int)) (c := .int .i64 (R : Int)) (d := .slice A1 hs.length c1) (e := .slice A2 es.length c2) SE.out OFF6.out)
      rw [← hw] at SE8
      have HW8 := hid hw
      clear hw
      go_wp2
      rw [← HW8.out]
      clear g0 g1 g2 g3 g4
      clear f0 f1 f2 f3 f4
      clear p0 p1 p2 p3 p4
      have e0 := D8.out.cell 0
      have e1 := D8.out.cell 1
      have e2 := D8.out.cell 2
      have e3 := D8.out.cell 3
      have e4 := D8.out.cell 4
      exact bodyPost_ret (v := .tuple #[.agg #[.int .i64 (n : Int), .int .i64 (L : Int), .int .i64 (R : Int), .slice A1 hs.length c1, .slice A2 es.length c2], .int .i64 8]) (by simp [results, Tryz.results16, go_sem, e0, e1, e2, e3, e4]) rfl ⟨_, _, rfl, .inr HEE.out, by rw [HEE.out]; exact SE8.out, fun _ _ h => h, HB8.out⟩
    case neg =>
      cases hf : Tp.fiP (Pt.uv es) u v with
      | some i0 =>
        have HEE : Hid (es' = es) := hid (by rw [HES.out]; unfold Tp.insF; rw [if_neg (by intro h; rw [hf] at h; cases h.2.2.2)])
        have HF := hid hf
        have HUV := hid huv
        clear hf huv
        have g0 := DG.out.cell 0
        have g1 := DG.out.cell 1
        have g2 := DG.out.cell 2
        have g3 := DG.out.cell 3
        have g4 := DG.out.cell 4
        go_enter Tryz.func16, Tryz.ntmps16
        go_upto_region 1 with (fail)
        rw [← HW.out, ← HKG.out, ← HK6.out, ← HW2.out]
        go_wp2_with fail
        refine (tfits_is GM1.out HP.out true ⟨fun _ => rfl, fun _ => HIN.out⟩).mono ?_; rintro e w4 ⟨rfl, b4⟩
        clear g0 g1 g2 g3 g4
        replace DG := hid (DG.out.on b4)
        replace D6 := hid (D6.out.on b4)
        replace GM1 := hid (GM1.out.call b4)
        replace HB := hid (Bl.call HB.out b4)
        clear b4
        have g0 := DG.out.cell 0
        have g1 := DG.out.cell 1
        have g2 := DG.out.cell 2
        have g3 := DG.out.cell 3
        have g4 := DG.out.cell 4
        go_wp2_with fail
        refine (tadd_there GM1.out.se TAB.out u1 u2 v1 v2 HUV.out HF.out).mono ?_; rintro e w5 ⟨rfl, b5⟩
        clear g0 g1 g2 g3 g4
        replace DG := hid (DG.out.on b5)
        replace D6 := hid (D6.out.on b5)
        replace GM1 := hid (GM1.out.call b5)
        replace HB := hid (Bl.call HB.out b5)
        clear b5
        have SE := hid GM1.out.se
        have g0 := DG.out.cell 0
        have g1 := DG.out.cell 1
        have g2 := DG.out.cell 2
        have g3 := DG.out.cell 3
        have g4 := DG.out.cell 4
        have f0 := D6.out.frozen 0
        have f1 := D6.out.frozen 1
        have f2 := D6.out.frozen 2
        have f3 := D6.out.frozen 3
        have f4 := D6.out.frozen 4
        have p0 := D6.out.cell 0
        have p1 := D6.out.cell 1
        have p2 := D6.out.cell 2
        have p3 := D6.out.cell 3
        have p4 := D6.out.cell 4
        obtain ⟨w99, hw⟩ : ∃ z, z = (((((w5.setCell ⟨K6, 0, none⟩ (.int .i64 (n : Int))).setCell ⟨K6, 1, none⟩ (.int .i64 (L : Int))).setCell ⟨K6, 2, none⟩ (.int .i64 (R : Int))).setCell ⟨K6, 3, none⟩ (.slice A1 hs.length c1)).setCell ⟨K6, 4, none⟩ (.slice A2 es.length c2)) := ⟨_, rfl⟩
        have D8 : Hid (Blk w99 K6 28 [.int .i64 (n : Int), .int .i64 (L : Int), .int .i64 (R : Int), .slice A1 hs.length c1, .slice A2 es.length c2]) := hid (by rw [hw]; exact put5_blk D6.out)
        have HB8 : Hid (Below w.heap.size w w99) := hid (by rw [hw]; exact put5_bel HB.out LO6.out)
        have SE8 := hid (put5_sl (a := .int .i64 (n : Int)) (b := .int .i64 (L : Int)) (c := .int .i64 (R : Int)) (d := .slice A1 hs.length c1) (e := .slice A2 es.length c2) SE.out OFF6.out)
        rw [← hw] at SE8
        have HW8 := hid hw
        clear hw
        go_wp2
        rw [← HW8.out]
        clear g0 g1 g2 g3 g4
        clear f0 f1 f2 f3 f4
        clear p0 p1 p2 p3 p4
        have e0 := D8.out.cell 0
        have e1 := D8.out.cell 1
        have e2 := D8.out.cell 2
        have e3 := D8.out.cell 3
        have e4 := D8.out.cell 4
        exact bodyPost_ret (v := .tuple #[.agg #[.int .i64 (n : Int), .int .i64 (L : Int), .int .i64 (R : Int), .slice A1 hs.length c1, .slice A2 es.length c2], .int .i64 4]) (by simp [results, Tryz.results16, go_sem, e0, e1, e2, e3, e4]) rfl ⟨_, _, rfl, .inr HEE.out, by rw [HEE.out]; exact SE8.out, fun _ _ h => h, HB8.out⟩
      | none =>
        have HEE : Hid (es' = Tp.mendF n L S (Tp.addF es u v) u v L) := hid (by rw [HES.out]; unfold Tp.insF; rw [if_pos ⟨HIN.out.1, HIN.out.2, huv, hf⟩])
        have HF := hid hf
        have HUV := hid huv
        clear hf
        have AD : Hid (∀ {w : World} {v0 : Value} {m : Nat}, Sl w w.heap.size 3 v0 m (eds es) → m ≤ 1000 → Calls Tryz.prog 34 #[.int .i64 (n : Int), v0, .int .i64 u, .int .i64 v] w (OwnTup (Tp.addF es u v) w)) := hid (fun h hm => by
          rcases Int.lt_trichotomy u v with h1 | h1 | h1
          · exact tadd_lt h TAB.out u1 u2 v1 v2 h1 HF.out hm
          · exact absurd h1 huv
          · exact tadd_gt h TAB.out u1 u2 v1 v2 h1 HF.out hm)
        clear huv
        have g0 := DG.out.cell 0
        have g1 := DG.out.cell 1
        have g2 := DG.out.cell 2
        have g3 := DG.out.cell 3
        have g4 := DG.out.cell 4
        go_enter Tryz.func16, Tryz.ntmps16
        go_upto_region 1 with (fail)
        rw [← HW.out, ← HKG.out, ← HK6.out, ← HW2.out]
        go_wp2_with fail
        refine (tfits_is GM1.out HP.out true ⟨fun _ => rfl, fun _ => HIN.out⟩).mono ?_; rintro e w4 ⟨rfl, b4⟩
        clear g0 g1 g2 g3 g4
        replace DG := hid (DG.out.on b4)
        replace D6 := hid (D6.out.on b4)
        replace GM1 := hid (GM1.out.call b4)
        replace HB := hid (Bl.call HB.out b4)
        clear b4
        have g0 := DG.out.cell 0
        have g1 := DG.out.cell 1
        have g2 := DG.out.cell 2
        have g3 := DG.out.cell 3
        have g4 := DG.out.cell 4
        go_wp2_with fail
        refine (AD.out GM1.out.se LEN.out).mono ?_; rintro e w5 ⟨v5, rfl, o5, b5⟩
        clear g0 g1 g2 g3 g4
        obtain ⟨k5, hk5⟩ : ∃ k, (Tp.addF es u v).length = k := ⟨_, rfl⟩
        rw [hk5] at o5
        obtain ⟨A5, c5, hv5, _, _, _, _⟩ := Sl.of_own o5
        subst hv5
        have HK5 := hid hk5
        have HO := hid o5
        have WL : w.heap.size ≤ w4.heap.size := HB.out.size
        have KGL : KG < w4.heap.size := DG.out.lt
        have K6L : K6 < w4.heap.size := D6.out.lt
        have OFF6' : Hid (Off K6 (.slice A5 k5 c5)) := hid (own_isOff o5 K6L)
        have OFFG' : Hid (Off KG (.slice A5 k5 c5)) := hid (own_isOff o5 KGL)
        have OFFN : Hid (∀ K, K < w.heap.size → Off K (.slice A5 k5 c5)) := hid (fun K hK => own_isOff o5 (by omega))
        replace DG := hid (DG.out.on b5)
        replace D6 := hid (D6.out.on b5)
        replace GM1 := hid (GM1.out.call b5)
        replace HB := hid (Bl.call HB.out b5)
        clear o5 b5 hk5 WL KGL K6L
        obtain ⟨w6, hw⟩ : ∃ z, z = w5.setCell ⟨KG, 4, none⟩ (.slice A5 k5 c5) := ⟨_, rfl⟩
        have SE : Hid (Sl w6 w6.heap.size 3 (.slice A5 k5 c5) k5 (eds (Tp.addF es u v))) := hid (by rw [hw]; exact (Sl.of_own HO.out).off OFFG'.out)
        have SH : Hid (Sl w6 w6.heap.size 2 (.slice A1 hs.length c1) hs.length (hcs hs)) := hid (by rw [hw]; exact GM1.out.sh.off OFFH.out)
        have DG2 : Hid (Blk w6 KG 28 [.int .i64 (n : Int), .int .i64 (L : Int), .int .i64 (R : Int), .slice A1 hs.length c1, .slice A5 k5 c5]) := hid (by rw [hw]; exact DG.out.put 4 (.slice A5 k5 c5))
        have D62 : Hid (Blk w6 K6 28 [.int .i64 0, .int .i64 0, .int .i64 0, .slice none 0 0, .slice none 0 0]) := hid (by rw [hw]; exact D6.out.far (p := ⟨KG, 4, none⟩) NE6.out _)
        have HB2 : Hid (Below w.heap.size w w6) := hid (by rw [hw]; exact HB.out.setCell (p := ⟨KG, 4, none⟩) LOG.out _)
        have GMt : Hid (GM w6 (.slice A1 hs.length c1) (.slice A5 k5 c5) hs (Tp.addF es u v)) := hid ⟨SH.out, by rw [HK5.out]; exact SE.out⟩
        have HPt : Hid (GP n L R hs (Tp.addF es u v)) := hid (HP.out.add HIN.out.1 HIN.out.2 HUV.out HF.out HEL.out)
        have HW6 := hid hw
        clear hw HO
        have g4 := DG.out.cell 4
        have f4 := DG.out.frozen 4
        go_upto_region 7 with (fail)
        rw [← HW6.out]
        clear g4 f4 DG D6 HB GM1 SH SE
        have DG := DG2
        have D6 := D62
        have HB := HB2
        clear DG2 D62 HB2
        have g0 := DG.out.cell 0
        have g1 := DG.out.cell 1
        have g2 := DG.out.cell 2
        have g3 := DG.out.cell 3
        have g4 := DG.out.cell 4
        go_wp2_with fail
        refine (RC.out GMt.out HPt.out u1 u2 v1 v2).mono ?_; rintro e w7 ⟨v7, rfl, s7, of7, b7⟩
        clear g0 g1 g2 g3 g4
        obtain ⟨k7, hk7⟩ : ∃ k, (Tp.mendF n L S (Tp.addF es u v) u v L).length = k := ⟨_, rfl⟩
        rw [hk7] at s7
        obtain ⟨A7, c7, hv7, _, _, _, _⟩ := id s7
        subst hv7
        have HK7 := hid hk7
        have SE := hid s7
        have K6L : K6 < w6.heap.size := D6.out.lt
        have WL : w.heap.size ≤ w6.heap.size := HB.out.size
        have OFF6 : Hid (Off K6 (.slice A7 k7 c7)) := hid (of7 _ K6L OFF6'.out)
        have OFN7 : Hid (∀ K, K < w.heap.size → Off K (.slice A7 k7 c7)) := hid (fun K hK => of7 K (by omega) (OFFN.out K hK))
        replace DG := hid (DG.out.on b7)
        replace D6 := hid (D6.out.on b7)
        replace HB := hid (Bl.call HB.out b7)
        clear b7 s7 of7 K6L WL hk7 GMt
        have f0 := D6.out.frozen 0
        have f1 := D6.out.frozen 1
        have f2 := D6.out.frozen 2
        have f3 := D6.out.frozen 3
        have f4 := D6.out.frozen 4
        have p0 := D6.out.cell 0
        have p1 := D6.out.cell 1
        have p2 := D6.out.cell 2
        have p3 := D6.out.cell 3
        have p4 := D6.out.cell 4
        obtain ⟨w99, hw⟩ : ∃ z, z = (((((w7.setCell ⟨K6, 0, none⟩ (.int .i64 (n : Int))).setCell ⟨K6, 1, none⟩ (.int .i64 (L : Int))).setCell ⟨K6, 2, none⟩ (.int .i64 (R : Int))).setCell ⟨K6, 3, none⟩ (.slice A1 hs.length c1)).setCell ⟨K6, 4, none⟩ (.slice A7 k7 c7)) := ⟨_, rfl⟩
        have D8 : Hid (Blk w99 K6 28 [.int .i64 (n : Int), .int .i64 (L : Int), .int .i64 (R : Int), .slice A1 hs.length c1, .slice A7 k7 c7]) := hid (by rw [hw]; exact put5_blk D6.out)
        have HB8 : Hid (Below w.heap.size w w99) := hid (by rw [hw]; exact put5_bel HB.out LO6.out)
        have SE8 := hid (put5_sl (a := .int .i64 (n : Int)) (b := .int .i64 (L : Int)) (c := .int .i64 (R : Int)) (d := .slice A1 hs.length c1) (e := .slice A7 k7 c7) SE.out OFF6.out)
        rw [← hw] at SE8
        have HW8 := hid hw
        clear hw
        go_wp2
        rw [← HW8.out]
        clear f0 f1 f2 f3 f4
        clear p0 p1 p2 p3 p4
        have e0 := D8.out.cell 0
        have e1 := D8.out.cell 1
        have e2 := D8.out.cell 2
        have e3 := D8.out.cell 3
        have e4 := D8.out.cell 4
        exact bodyPost_ret (v := .tuple #[.agg #[.int .i64 (n : Int), .int .i64 (L : Int), .int .i64 (R : Int), .slice A1 hs.length c1, .slice A7 k7 c7], .int .i64 0]) (by simp [results, Tryz.results16, go_sem, e0, e1, e2, e3, e4]) rfl ⟨_, _, rfl, .inl rfl, by rw [HEE.out, HK7.out]; exact SE8.out, fun K hK _ => OFN7.out K hK, HB8.out⟩
set_option maxHeartbeats 32000000 in
set_option maxRecDepth 100000 in
theorem tDelete_ok (hm : GM w vh ve hs es) (hp : GP n L R hs es) (hel : es.length ≤ 999) (u v : Int) :
    Calls Tryz.prog 14 #[grV n L R vh ve, .int .i64 u, .int .i64 v] w (ActPost n L R vh ve es (Tp.delF n L (Tp.Sof hs R (lvl n) L) es u v) w) := by
  have S0 := hid hm.se
  have SH0 := hid hm.sh
  obtain ⟨A1, c1, A2, c2, rfl, rfl⟩ := hm.lit
  unfold grV
  obtain ⟨KG, hKG⟩ : ∃ K, K = w.heap.size := ⟨_, rfl⟩
  obtain ⟨w1, hw1⟩ : ∃ W, W = w.alloc (.cells #[.int .i64 (n : Int), .int .i64 (L : Int), .int .i64 (R : Int), .slice A1 hs.length c1, .slice A2 es.length c2] 28) := ⟨_, rfl⟩
  have HB : Hid (Below w.heap.size w w1) := hid (by rw [hw1]; exact bel_new _ _)
  have DG : Hid (Blk w1 KG 28 [.int .i64 (n : Int), .int .i64 (L : Int), .int .i64 (R : Int), .slice A1 hs.length c1, .slice A2 es.length c2]) := hid (by rw [hw1, hKG]; exact Blk.new _ _ _)
  have GM1 : Hid (GM w1 (.slice A1 hs.length c1) (.slice A2 es.length c2) hs es) := hid (by rw [hw1]; exact hm.new _)
  have HP := hid hp
  have HW := hid hw1
  have HKG := hid hKG
  have hn12 : n ≤ 12 := hp.n2
  have hL4 : L ≤ 4 := hp.l2
  have hR3 : R ≤ 3 := hp.r2
  clear hm hp hw1 hKG
  obtain ⟨w2, hw2⟩ : ∃ W, W = w1.alloc (.cells #[.int .i64 0, .int .i64 0, .int .i64 0, .slice none 0 0, .slice none 0 0] 28) := ⟨_, rfl⟩
  obtain ⟨K6, hK6⟩ : ∃ K, K = KG + 1 := ⟨_, rfl⟩
  have hsz1 : w1.heap.size = KG + 1 := by rw [HW.out, HKG.out]; simp
  have b12 : Below w1.heap.size w1 w2 := by rw [hw2]; exact bel_new _ _
  replace HB := hid (Bl.call HB.out b12)
  replace DG := hid (DG.out.below b12 DG.out.lt)
  replace GM1 := hid (GM1.out.call b12)
  have D6 : Hid (Blk w2 K6 28 [.int .i64 0, .int .i64 0, .int .i64 0, .slice none 0 0, .slice none 0 0]) := hid (by rw [hw2, hK6, ← hsz1]; exact Blk.new _ _ _)
  have LOG : Hid (w.heap.size ≤ KG) := hid (by rw [HKG.out]; exact Nat.le_refl _)
  have LO6 : Hid (w.heap.size ≤ K6) := hid (by rw [hK6, HKG.out]; omega)
  have NE6 : Hid (K6 ≠ KG) := hid (by omega)
  have HW2 := hid hw2
  have HK6 := hid hK6
  clear b12 hw2 hK6 hsz1
  have OFF6 : Hid (Off K6 (.slice A2 es.length c2)) := hid (S0.out.isOff LO6.out)
  have OFFH : Hid (Off KG (.slice A1 hs.length c1)) := hid (SH0.out.isOff LOG.out)
  have OFFG : Hid (Off KG (.slice A2 es.length c2)) := hid (S0.out.isOff LOG.out)
  obtain ⟨S, hS⟩ : ∃ S, S = Tp.Sof hs R (lvl n) L := ⟨_, rfl⟩
  have RC : Hid (∀ {w : World} {vh ve : Value} {es : List (Int × Int × Int)} {u v : Int}, GM w vh ve hs es → GP n L R hs es → 0 ≤ u → u < (n : Int) → 0 ≤ v → v < (n : Int) → Calls Tryz.prog 30 #[grV n L R vh ve, .int .i64 u, .int .i64 v] w (RaPost n L R vh ve (Tp.mendF n L S es u v L) w)) := hid (fun h1 h2 h3 h4 h5 h6 => by rw [hS]; exact mended_ok h1 h2 h3 h4 h5 h6)
  rw [← hS]
  clear hS
  have HEL := hid hel
  have LEN : Hid (es.length ≤ 1000) := hid HP.out.el
  have TAB := hid HP.out.tab
  clear hel
  obtain ⟨es', hes⟩ : ∃ es', es' = Tp.delF n L S es u v := ⟨_, rfl⟩
  rw [← hes]
  have HES := hid hes
  clear hes
  by_cases hin : Pt.InR n u ∧ Pt.InR n v
  case neg =>
    have HEE : Hid (es' = es) := hid (by rw [HES.out]; unfold Tp.delF; rw [if_neg (by intro h; exact hin h)])
    have g0 := DG.out.cell 0
    have g1 := DG.out.cell 1
    have g2 := DG.out.cell 2
    have g3 := DG.out.cell 3
    have g4 := DG.out.cell 4
    go_enter Tryz.func14, Tryz.ntmps14
    go_upto_region 1 with (fail)
    rw [← HW.out, ← HKG.out, ← HK6.out, ← HW2.out]
    go_wp2_with fail
    refine (tfits_is GM1.out HP.out false ⟨fun h => absurd h hin, fun h => by cases h⟩).mono ?_; rintro e w4 ⟨rfl, b4⟩
    clear g0 g1 g2 g3 g4
    replace DG := hid (DG.out.on b4)
    replace D6 := hid (D6.out.on b4)
    replace GM1 := hid (GM1.out.call b4)
    replace HB := hid (Bl.call HB.out b4)
    clear b4
    have SE := hid GM1.out.se
    clear hin
    have g0 := DG.out.cell 0
    have g1 := DG.out.cell 1
    have g2 := DG.out.cell 2
    have g3 := DG.out.cell 3
    have g4 := DG.out.cell 4
    have f0 := D6.out.frozen 0
    have f1 := D6.out.frozen 1
    have f2 := D6.out.frozen 2
    have f3 := D6.out.frozen 3
    have f4 := D6.out.frozen 4
    have p0 := D6.out.cell 0
    have p1 := D6.out.cell 1
    have p2 := D6.out.cell 2
    have p3 := D6.out.cell 3
    have p4 := D6.out.cell 4
    obtain ⟨w99, hw⟩ : ∃ z, z = (((((w4.setCell ⟨K6, 0, none⟩ (.int .i64 (n : Int))).setCell ⟨K6, 1, none⟩ (.int .i64 (L : Int))).setCell ⟨K6, 2, none⟩ (.int .i64 (R : Int))).setCell ⟨K6, 3, none⟩ (.slice A1 hs.length c1)).setCell ⟨K6, 4, none⟩ (.slice A2 es.length c2)) := ⟨_, rfl⟩
    have D8 : Hid (Blk w99 K6 28 [.int .i64 (n : Int), .int .i64 (L : Int), .int .i64 (R : Int), .slice A1 hs.length c1, .slice A2 es.length c2]) := hid (by rw [hw]; exact put5_blk D6.out)
    have HB8 : Hid (Below w.heap.size w w99) := hid (by rw [hw]; exact put5_bel HB.out LO6.out)
    have SE8 := hid (put5_sl (a := .int .i64 (n : Int)) (b := .int .i64 (L : Int)) (c := .int .i64 (R : Int)) (d := .slice A1 hs.length c1) (e := .slice A2 es.length c2) SE.out OFF6.out)
    rw [← hw] at SE8
    have HW8 := hid hw
    clear hw
    go_wp2
    rw [← HW8.out]
    clear g0 g1 g2 g3 g4
    clear f0 f1 f2 f3 f4
    clear p0 p1 p2 p3 p4
    have e0 := D8.out.cell 0
    have e1 := D8.out.cell 1
    have e2 := D8.out.cell 2
    have e3 := D8.out.cell 3
    have e4 := D8.out.cell 4
    exact bodyPost_ret (v := .tuple #[.agg #[.int .i64 (n : Int), .int .i64 (L : Int), .int .i64 (R : Int), .slice A1 hs.length c1, .slice A2 es.length c2], .int .i64 1]) (by simp [results, Tryz.results14, go_sem, e0, e1, e2, e3, e4]) rfl ⟨_, _, rfl, .inr HEE.out, by rw [HEE.out]; exact SE8.out, fun _ _ h => h, HB8.out⟩
  case pos =>
    have HIN := hid hin
    obtain ⟨⟨u1, u2⟩, v1, v2⟩ := hin
    cases hf : Tp.fiP (Pt.uv es) u v with
    | none =>
      have HEE : Hid (es' = es) := hid (by rw [HES.out]; unfold Tp.delF; rw [if_pos HIN.out, hf])
      have HF := hid hf
      clear hf
      have g0 := DG.out.cell 0
      have g1 := DG.out.cell 1
      have g2 := DG.out.cell 2
      have g3 := DG.out.cell 3
      have g4 := DG.out.cell 4
      go_enter Tryz.func14, Tryz.ntmps14
      go_upto_region 1 with (fail)
      rw [← HW.out, ← HKG.out, ← HK6.out, ← HW2.out]
      go_wp2_with fail
      refine (tfits_is GM1.out HP.out true ⟨fun _ => rfl, fun _ => HIN.out⟩).mono ?_; rintro e w4 ⟨rfl, b4⟩
      clear g0 g1 g2 g3 g4
      replace DG := hid (DG.out.on b4)
      replace D6 := hid (D6.out.on b4)
      replace GM1 := hid (GM1.out.call b4)
      replace HB := hid (Bl.call HB.out b4)
      clear b4
      have g0 := DG.out.cell 0
      have g1 := DG.out.cell 1
      have g2 := DG.out.cell 2
      have g3 := DG.out.cell 3
      have g4 := DG.out.cell 4
      go_wp2_with fail
      refine (tremove_none GM1.out.se TAB.out u1 u2 v1 v2 HF.out).mono ?_; rintro e w5 ⟨rfl, b5⟩
      clear g0 g1 g2 g3 g4
      replace DG := hid (DG.out.on b5)
      replace D6 := hid (D6.out.on b5)
      replace GM1 := hid (GM1.out.call b5)
      replace HB := hid (Bl.call HB.out b5)
      clear b5
      have SE := hid GM1.out.se
      have g0 := DG.out.cell 0
      have g1 := DG.out.cell 1
      have g2 := DG.out.cell 2
      have g3 := DG.out.cell 3
      have g4 := DG.out.cell 4
      have f0 := D6.out.frozen 0
      have f1 := D6.out.frozen 1
      have f2 := D6.out.frozen 2
      have f3 := D6.out.frozen 3
      have f4 := D6.out.frozen 4
      have p0 := D6.out.cell 0
      have p1 := D6.out.cell 1
      have p2 := D6.out.cell 2
      have p3 := D6.out.cell 3
      have p4 := D6.out.cell 4
      obtain ⟨w99, hw⟩ : ∃ z, z = (((((w5.setCell ⟨K6, 0, none⟩ (.int .i64 (n : Int))).setCell ⟨K6, 1, none⟩ (.int .i64 (L : Int))).setCell ⟨K6, 2, none⟩ (.int .i64 (R : Int))).setCell ⟨K6, 3, none⟩ (.slice A1 hs.length c1)).setCell ⟨K6, 4, none⟩ (.slice A2 es.length c2)) := ⟨_, rfl⟩
      have D8 : Hid (Blk w99 K6 28 [.int .i64 (n : Int), .int .i64 (L : Int), .int .i64 (R : Int), .slice A1 hs.length c1, .slice A2 es.length c2]) := hid (by rw [hw]; exact put5_blk D6.out)
      have HB8 : Hid (Below w.heap.size w w99) := hid (by rw [hw]; exact put5_bel HB.out LO6.out)
      have SE8 := hid (put5_sl (a := .int .i64 (n : Int)) (b := .int .i64 (L : Int)) (c := .int .i64 (R : Int)) (d := .slice A1 hs.length c1) (e := .slice A2 es.length c2) SE.out OFF6.out)
      rw [← hw] at SE8
      have HW8 := hid hw
      clear hw
      go_wp2
      rw [← HW8.out]
      clear g0 g1 g2 g3 g4
      clear f0 f1 f2 f3 f4
      clear p0 p1 p2 p3 p4
      have e0 := D8.out.cell 0
      have e1 := D8.out.cell 1
      have e2 := D8.out.cell 2
      have e3 := D8.out.cell 3
      have e4 := D8.out.cell 4
      exact bodyPost_ret (v := .tuple #[.agg #[.int .i64 (n : Int), .int .i64 (L : Int), .int .i64 (R : Int), .slice A1 hs.length c1, .slice A2 es.length c2], .int .i64 9]) (by simp [results, Tryz.results14, go_sem, e0, e1, e2, e3, e4]) rfl ⟨_, _, rfl, .inr HEE.out, by rw [HEE.out]; exact SE8.out, fun _ _ h => h, HB8.out⟩
    | some i0 =>
      have HEE : Hid (es' = Tp.mendF n L S (es.eraseIdx i0) u v L) := hid (by rw [HES.out]; unfold Tp.delF; rw [if_pos HIN.out, hf])
      have HF := hid hf
      clear hf
      have g0 := DG.out.cell 0
      have g1 := DG.out.cell 1
      have g2 := DG.out.cell 2
      have g3 := DG.out.cell 3
      have g4 := DG.out.cell 4
      go_enter Tryz.func14, Tryz.ntmps14
      go_upto_region 1 with (fail)
      rw [← HW.out, ← HKG.out, ← HK6.out, ← HW2.out]
      go_wp2_with fail
      refine (tfits_is GM1.out HP.out true ⟨fun _ => rfl, fun _ => HIN.out⟩).mono ?_; rintro e w4 ⟨rfl, b4⟩
      clear g0 g1 g2 g3 g4
      replace DG := hid (DG.out.on b4)
      replace D6 := hid (D6.out.on b4)
      replace GM1 := hid (GM1.out.call b4)
      replace HB := hid (Bl.call HB.out b4)
      clear b4
      have g0 := DG.out.cell 0
      have g1 := DG.out.cell 1
      have g2 := DG.out.cell 2
      have g3 := DG.out.cell 3
      have g4 := DG.out.cell 4
      go_wp2_with fail
      refine (tremove_ok GM1.out.se TAB.out u1 u2 v1 v2 HF.out LEN.out).mono ?_; rintro e w5 ⟨v5, rfl, o5, b5⟩
      clear g0 g1 g2 g3 g4
      obtain ⟨k5, hk5⟩ : ∃ k, (es.eraseIdx i0).length = k := ⟨_, rfl⟩
      rw [hk5] at o5
      obtain ⟨A5, c5, hv5, _, _, _, _⟩ := Sl.of_own o5
      subst hv5
      have HK5 := hid hk5
      have HO := hid o5
      have WL : w.heap.size ≤ w4.heap.size := HB.out.size
      have KGL : KG < w4.heap.size := DG.out.lt
      have K6L : K6 < w4.heap.size := D6.out.lt
      have OFF6' : Hid (Off K6 (.slice A5 k5 c5)) := hid (own_isOff o5 K6L)
      have OFFG' : Hid (Off KG (.slice A5 k5 c5)) := hid (own_isOff o5 KGL)
      have OFFN : Hid (∀ K, K < w.heap.size → Off K (.slice A5 k5 c5)) := hid (fun K hK => own_isOff o5 (by omega))
      replace DG := hid (DG.out.on b5)
      replace D6 := hid (D6.out.on b5)
      replace GM1 := hid (GM1.out.call b5)
      replace HB := hid (Bl.call HB.out b5)
      clear o5 b5 hk5 WL KGL K6L
      obtain ⟨w6, hw⟩ : ∃ z, z = w5.setCell ⟨KG, 4, none⟩ (.slice A5 k5 c5) := ⟨_, rfl⟩
      have SE : Hid (Sl w6 w6.heap.size 3 (.slice A5 k5 c5) k5 (eds (es.eraseIdx i0))) := hid (by rw [hw]; exact (Sl.of_own HO.out).off OFFG'.out)
      have SH : Hid (Sl w6 w6.heap.size 2 (.slice A1 hs.length c1) hs.length (hcs hs)) := hid (by rw [hw]; exact GM1.out.sh.off OFFH.out)
      have DG2 : Hid (Blk w6 KG 28 [.int .i64 (n : Int), .int .i64 (L : Int), .int .i64 (R : Int), .slice A1 hs.length c1, .slice A5 k5 c5]) := hid (by rw [hw]; exact DG.out.put 4 (.slice A5 k5 c5))
      have D62 : Hid (Blk w6 K6 28 [.int .i64 0, .int .i64 0, .int .i64 0, .slice none 0 0, .slice none 0 0]) := hid (by rw [hw]; exact D6.out.far (p := ⟨KG, 4, none⟩) NE6.out _)
      have HB2 : Hid (Below w.heap.size w w6) := hid (by rw [hw]; exact HB.out.setCell (p := ⟨KG, 4, none⟩) LOG.out _)
      have GMt : Hid (GM w6 (.slice A1 hs.length c1) (.slice A5 k5 c5) hs (es.eraseIdx i0)) := hid ⟨SH.out, by rw [HK5.out]; exact SE.out⟩
      have HPt : Hid (GP n L R hs (es.eraseIdx i0)) := hid (HP.out.del i0)
      have HW6 := hid hw
      clear hw HO
      have g4 := DG.out.cell 4
      have f4 := DG.out.frozen 4
      go_upto_region 7 with (fail)
      rw [← HW6.out]
      clear g4 f4 DG D6 HB GM1 SH SE
      have DG := DG2
      have D6 := D62
      have HB := HB2
      clear DG2 D62 HB2
      have g0 := DG.out.cell 0
      have g1 := DG.out.cell 1
      have g2 := DG.out.cell 2
      have g3 := DG.out.cell 3
      have g4 := DG.out.cell 4
      go_wp2_with fail
      refine (RC.out GMt.out HPt.out u1 u2 v1 v2).mono ?_; rintro e w7 ⟨v7, rfl, s7, of7, b7⟩
      clear g0 g1 g2 g3 g4
      obtain ⟨k7, hk7⟩ : ∃ k, (Tp.mendF n L S (es.eraseIdx i0) u v L).length = k := ⟨_, rfl⟩
      rw [hk7] at s7
      obtain ⟨A7, c7, hv7, _, _, _, _⟩ := id s7
      subst hv7
      have HK7 := hid hk7
      have SE := hid s7
      have K6L : K6 < w6.heap.size := D6.out.lt
      have WL : w.heap.size ≤ w6.heap.size := HB.out.size
      have OFF6 : Hid (Off K6 (.slice A7 k7 c7)) := hid (of7 _ K6L OFF6'.out)
      have OFN7 : Hid (∀ K, K < w.heap.size → Off K (.slice A7 k7 c7)) := hid (fun K hK => of7 K (by omega) (OFFN.out K hK))
      replace DG := hid (DG.out.on b7)
      replace D6 := hid (D6.out.on b7)
      replace HB := hid (Bl.call HB.out b7)
      clear b7 s7 of7 K6L WL hk7 GMt
      have f0 := D6.out.frozen 0
      have f1 := D6.out.frozen 1
      have f2 := D6.out.frozen 2
      have f3 := D6.out.frozen 3
      have f4 := D6.out.frozen 4
      have p0 := D6.out.cell 0
      have p1 := D6.out.cell 1
      have p2 := D6.out.cell 2
      have p3 := D6.out.cell 3
      have p4 := D6.out.cell 4
      obtain ⟨w99, hw⟩ : ∃ z, z = (((((w7.setCell ⟨K6, 0, none⟩ (.int .i64 (n : Int))).setCell ⟨K6, 1, none⟩ (.int .i64 (L : Int))).setCell ⟨K6, 2, none⟩ (.int .i64 (R : Int))).setCell ⟨K6, 3, none⟩ (.slice A1 hs.length c1)).setCell ⟨K6, 4, none⟩ (.slice A7 k7 c7)) := ⟨_, rfl⟩
      have D8 : Hid (Blk w99 K6 28 [.int .i64 (n : Int), .int .i64 (L : Int), .int .i64 (R : Int), .slice A1 hs.length c1, .slice A7 k7 c7]) := hid (by rw [hw]; exact put5_blk D6.out)
      have HB8 : Hid (Below w.heap.size w w99) := hid (by rw [hw]; exact put5_bel HB.out LO6.out)
      have SE8 := hid (put5_sl (a := .int .i64 (n : Int)) (b := .int .i64 (L : Int)) (c := .int .i64 (R : Int)) (d := .slice A1 hs.length c1) (e := .slice A7 k7 c7) SE.out OFF6.out)
      rw [← hw] at SE8
      have HW8 := hid hw
      clear hw
      go_wp2
      rw [← HW8.out]
      clear f0 f1 f2 f3 f4
      clear p0 p1 p2 p3 p4
      have e0 := D8.out.cell 0
      have e1 := D8.out.cell 1
      have e2 := D8.out.cell 2
      have e3 := D8.out.cell 3
      have e4 := D8.out.cell 4
      exact bodyPost_ret (v := .tuple #[.agg #[.int .i64 (n : Int), .int .i64 (L : Int), .int .i64 (R : Int), .slice A1 hs.length c1, .slice A7 k7 c7], .int .i64 0]) (by simp [results, Tryz.results14, go_sem, e0, e1, e2, e3, e4]) rfl ⟨_, _, rfl, .inl rfl, by rw [HEE.out, HK7.out]; exact SE8.out, fun K hK _ => OFN7.out K hK, HB8.out⟩
end
theorem rless_any (x y t x2 y2 t2 : Int) (w : World) :
    Calls Tryz.prog 35 #[.agg #[.int .i64 x, .int .i64 y, .int .i64 t], .agg #[.int .i64 x2, .int .i64 y2, .int .i64 t2]] w fun e w' => e = .returned (.bool (lessE (x, y, t) (x2, y2, t2))) ∧ Below w.heap.size w w' := by
  have hb : Below w.heap.size w ((w.alloc (.cells #[.int .i64 x, .int .i64 y, .int .i64 t] 35)).alloc (.cells #[.int .i64 x2, .int .i64 y2, .int .i64 t2] 35)) := Bl.new (bel_new _ _) _
  have HB := hid hb
  clear hb
  rcases Int.lt_trichotomy x x2 with h | h | h
  · have h2 : (x != x2) = true := by simp; omega
    have H : Hid (lessE (x, y, t) (x2, y2, t2) = true) := hid (by simp [lessE, h])
    go_enter Tryz.func35, Tryz.ntmps35
    go_wp2
    go_ret
    exact ⟨by rw [H.out]; exact ret_bool (by simp [h]), HB.out⟩
  · subst h
    by_cases hy : y < y2
    · have H : Hid (lessE (x, y, t) (x, y2, t2) = true) := hid (by simp [lessE, hy])
      go_enter Tryz.func35, Tryz.ntmps35
      go_wp2
      go_ret
      exact ⟨by rw [H.out]; exact ret_bool (by simp [hy]), HB.out⟩
    · have H : Hid (lessE (x, y, t) (x, y2, t2) = false) := hid (by simp [lessE, hy])
      go_enter Tryz.func35, Tryz.ntmps35
      go_wp2
      go_ret
      exact ⟨by rw [H.out]; exact ret_bool (by simp [hy]), HB.out⟩
  · have h2 : (x != x2) = true := by simp; omega
    have h1 : ¬ x < x2 := by omega
    have H : Hid (lessE (x, y, t) (x2, y2, t2) = false) := hid (by simp [lessE]; omega)
    go_enter Tryz.func35, Tryz.ntmps35
    go_wp2
    go_ret
    exact ⟨by rw [H.out]; exact ret_bool (by simp [h1]), HB.out⟩
theorem rless_is {x y t x2 y2 t2 : Int} (b : Bool) (h : lessE (x, y, t) (x2, y2, t2) = b) (w : World) :
    Calls Tryz.prog 35 #[.agg #[.int .i64 x, .int .i64 y, .int .i64 t], .agg #[.int .i64 x2, .int .i64 y2, .int .i64 t2]] w fun e w' => e = .returned (.bool b) ∧ Below w.heap.size w w' := by
  subst h; exact rless_any _ _ _ _ _ _ _
set_option maxRecDepth 100000 in
set_option maxHeartbeats 8000000 in
theorem rtright_is {n : Int} {v : Value} {m : Nat} {l : List (Int × Int × Int)} {w : World} (hs : Sl w w.heap.size 3 v m (eds l)) (b : Bool) (hb : TabR n l ↔ b = true) :
    Calls Tryz.prog 31 #[.int .i64 n, v] w fun e w' => e = .returned (.bool b) ∧ Below w.heap.size w w' := by
  have hl : l.length = m := by have := hs.len; rw [len_eds] at this; omega
  have HB := hid hb
  obtain ⟨A, c, rfl, hnc, hcm, hll, hx⟩ := hs
  have hm : m ≤ 9223372036854775807 := by unfold maxLen at hcm; omega
  have HX := hid hx
  have HL := hid hl
  clear hx hll hl hb hcm hnc
  by_cases h1 : 0 ≤ n
  case neg =>
    have HF : Hid (b = false) := hid (by cases b with | false => rfl | true => exact absurd (HB.out.2 rfl).1.1 h1)
    go_enter Tryz.func31, Tryz.ntmps31
    go_wp2
    go_ret
    exact ⟨by rw [HF.out]; rfl, Below.refl _ _⟩
  case pos =>
    by_cases h2 : n ≤ 1024
    case neg =>
      have HF : Hid (b = false) := hid (by cases b with | false => rfl | true => exact absurd (HB.out.2 rfl).1.2 h2)
      go_enter Tryz.func31, Tryz.ntmps31
      go_wp2
      go_ret
      exact ⟨by rw [HF.out]; rfl, Below.refl _ _⟩
    case pos =>
      have HN := hid (And.intro h1 h2)
      go_enter Tryz.func31, Tryz.ntmps31
      go_wp2_with fail
      go_loopw [5] (fun iv wr => ∃ i : Nat, i ≤ m ∧ iv = .int .i64 (i : Int) ∧ Hid (TabPre n l i) ∧ Hid (Below w.heap.size w wr)) (fun iv _ => m - (intOf iv).toNat)
      case atStart => exact ⟨0, Nat.zero_le _, rfl, hid (fun j _ hj => absurd hj (Nat.not_lt_zero _)), hid (Below.refl _ _)⟩
      case round =>
        obtain ⟨i, hi, rfl, HP, HBr⟩ := hrel
        obtain ⟨w1, rfl⟩ : ∃ x, x = wr := ⟨wr, rfl⟩
        by_cases hlt : i < m
        · have j0 : (i : Int) < (m : Int) := by omega
          have hil : i < l.length := by rw [HL.out]; exact hlt
          obtain ⟨b6, o6, rfl, hb6, hc6⟩ := HX.out (by omega)
          obtain ⟨p0, p1, p2⟩ := eds_cell hc6 hil
          have q0 := (HBr.out.cell (p := ⟨b6, o6 + i * 3, none⟩) hb6).trans p0
          have q1 := (HBr.out.cell (p := ⟨b6, o6 + i * 3 + 1, none⟩) hb6).trans p1
          have q2 := (HBr.out.cell (p := ⟨b6, o6 + i * 3 + 2, none⟩) hb6).trans p2
          have HNO := hid (tab_no HB.out hil)
          have HNX := hid (fun (h1 : EdOk n l[i]) (h2 : ∀ k, (hk : k + 1 = i) → lessE (l[k]'(by omega)) l[i] = true) => tab_next HP.out (fun _ => ⟨h1, h2⟩))
          obtain ⟨e, he⟩ : ∃ e, e = l[i] := ⟨_, rfl⟩
          rw [← he] at q0 q1 q2 HNO HNX
          have HE := hid he
          obtain ⟨x, y, t⟩ := e
          dsimp only at q0 q1 q2
          clear he p0 p1 p2
          have HOKE : Hid (0 ≤ x → x < y → y < n → 0 ≤ t → t ≤ 16 → EdOk n (x, y, t)) := hid (fun l1 l2 l3 l4 l5 => ⟨l1, l2, l3, l4, l5⟩)
          by_cases k1 : x < 0
          case pos =>
            have HF : Hid (b = false) := hid (HNO (fun h => by simp only [EdOk] at h; omega))
            clear HNO HNX HE hil hc6
            go_wp2_with fail
            go_quiet (fail)
            go_wp2
            go_ret
            exact ⟨by rw [HF.out]; rfl, Bl.qt HBr.out (qt_of _ _)⟩
          by_cases k2 : y ≤ x
          case pos =>
            have HF : Hid (b = false) := hid (HNO (fun h => by simp only [EdOk] at h; omega))
            clear HNO HNX HE hil hc6
            go_wp2_with fail
            go_quiet (fail)
            go_wp2
            go_ret
            exact ⟨by rw [HF.out]; rfl, Bl.qt HBr.out (qt_of _ _)⟩
          by_cases k3 : n ≤ y
          case pos =>
            have HF : Hid (b = false) := hid (HNO (fun h => by simp only [EdOk] at h; omega))
            clear HNO HNX HE hil hc6
            go_wp2_with fail
            go_quiet (fail)
            go_wp2
            go_ret
            exact ⟨by rw [HF.out]; rfl, Bl.qt HBr.out (qt_of _ _)⟩
          by_cases k4 : t < 0
          case pos =>
            have HF : Hid (b = false) := hid (HNO (fun h => by simp only [EdOk] at h; omega))
            clear HNO HNX HE hil hc6
            go_wp2_with fail
            go_quiet (fail)
            go_wp2
            go_ret
            exact ⟨by rw [HF.out]; rfl, Bl.qt HBr.out (qt_of _ _)⟩
          by_cases k5 : 16 < t
          case pos =>
            have HF : Hid (b = false) := hid (HNO (fun h => by simp only [EdOk] at h; omega))
            clear HNO HNX HE hil hc6
            go_wp2_with fail
            go_quiet (fail)
            go_wp2
            go_ret
            exact ⟨by rw [HF.out]; rfl, Bl.qt HBr.out (qt_of _ _)⟩
          have HED := hid (HOKE.out (by omega) (by omega) (by omega) (by omega) (by omega))
          clear HNO HOKE
          go_wp2_with fail
          go_quiet (fail)
          cases i with
          | zero =>
            have HN2 := hid (HNX HED.out (fun k hk => by omega))
            clear HNX HE hil hc6 q0 q1 q2
            go_wp2_with fail
            go_quiet (fail)
            go_wp2_with fail
            go_roundw
            case rel => exact ⟨1, by omega, rfl, HN2, hid (Bl.qt HBr.out (qt_of _ _))⟩
            case measure => simp [intOf]; omega
          | succ i =>
            have hil2 : i < l.length := by omega
            obtain ⟨r0, r1, r2⟩ := eds_cell hc6 hil2
            have s0 := (HBr.out.cell (p := ⟨b6, o6 + i * 3, none⟩) hb6).trans r0
            have s1 := (HBr.out.cell (p := ⟨b6, o6 + i * 3 + 1, none⟩) hb6).trans r1
            have s2 := (HBr.out.cell (p := ⟨b6, o6 + i * 3 + 2, none⟩) hb6).trans r2
            have HNL := hid (fun h : lessE l[i] l[i + 1] = false => tab_no2 HB.out hil h)
            have HNX2 : Hid (lessE l[i] (x, y, t) = true → TabPre n l (i + 1 + 1)) := hid (fun h => by
              refine HNX HED.out (fun k hk => ?_)
              obtain rfl : k = i := by omega
              exact h)
            rw [← HE.out] at HNL
            obtain ⟨pe, hpe⟩ : ∃ e, e = l[i] := ⟨_, rfl⟩
            rw [← hpe] at s0 s1 s2 HNL HNX2
            obtain ⟨px, py, pt⟩ := pe
            dsimp only at s0 s1 s2
            have j9 : IntKind.i64.wrap ((i : Int) + 1 - 1) = (i : Int) := by rw [IntKind.wrap_i64]; omega
            have j8 : (i : Int) + 1 < (m : Int) := by omega
            have j10 : IntKind.i64.wrap (((i + 1 : Nat) : Int) - 1) = (i : Int) := by rw [IntKind.wrap_i64]; omega
            have j7 : (i : Int) < (m : Int) := by omega
            have j6 : (0 : Int) ≤ (i : Int) := by omega
            have j5 : (0 : Int) < ((i + 1 : Nat) : Int) := by omega
            have j4 : (0 : Int) < (i : Int) + 1 := by omega
            have j3 : IntKind.i64.wrap (i : Int) = (i : Int) := IntWalk.i64_in _ (by omega)
            have jm : (m : Int) ≤ 9223372036854775807 := by omega
            have j2 : (0 : Int) ≤ (i : Int) + 1 := by omega
            have j1 : ((i : Int) + 1).toNat = i + 1 := by omega
            clear HNX HE hil hil2 hc6 r0 r1 r2 hpe
            go_wp2_with fail
            generalize hw2 : World.drewN w1 _ = w2
            have hq2 : Qt w1 w2 := ⟨_, hw2.symm⟩
            have HB2 := hid (Bl.qt HBr.out hq2)
            rw [← hq2.cell] at q0 q1 q2 s0 s1 s2
            clear hw2 hq2
            cases hls : lessE (px, py, pt) (x, y, t) with
            | true =>
              have HN2 := hid (HNX2.out hls)
              have HLS := hid hls
              clear hls
              go_region_held3 (fun w' => w'.cell? ⟨b6, o6 + i * 3, none⟩ = some (.int .i64 px) ∧ w'.cell? ⟨b6, o6 + i * 3 + 1, none⟩ = some (.int .i64 py) ∧ w'.cell? ⟨b6, o6 + i * 3 + 2, none⟩ = some (.int .i64 pt) ∧ w'.cell? ⟨b6, o6 + (i + 1) * 3, none⟩ = some (.int .i64 x) ∧ w'.cell? ⟨b6, o6 + (i + 1) * 3 + 1, none⟩ = some (.int .i64 y) ∧ w'.cell? ⟨b6, o6 + (i + 1) * 3 + 2, none⟩ = some (.int .i64 t))
                (first | go_keep | (go_split_ands; and_intros <;> (first | (refine cell_later (by assumption) ?_; first | assumption | (rw [Qt.cell (qt_of _ _)]; assumption) | (rw [Qt.cell (qt_drew _)]; assumption)) | (refine cell_later (bel_new _ _) ?_; assumption))) | (refine cell_later (by assumption) ?_; first | assumption | (rw [Qt.cell (qt_of _ _)]; assumption) | (rw [Qt.cell (qt_drew _)]; assumption)) | (refine cell_later (bel_new _ _) ?_; assumption))
                ((go_at_call 35; (with_reducible refine (rless_is true HLS.out _).mono ?_); rintro e w5 ⟨rfl, b5⟩))
              all_goals
                go_wp2_with fail
                go_roundw
                case rel => exact ⟨i + 1 + 1, by omega, by go_num, HN2, hid (by repeat (first | exact HB2.out | refine Bl.new ?_ _ | refine Bl.call ?_ (by assumption) | refine Bl.qt ?_ (by assumption) | refine Bl.qt ?_ (qt_drew _) | refine Bl.qt ?_ (qt_of _ _)))⟩
                case measure => simp [intOf]; omega
            | false =>
              have HF := hid (HNL.out hls)
              have HLS := hid hls
              clear hls
              go_region_held3 (fun w' => w'.cell? ⟨b6, o6 + i * 3, none⟩ = some (.int .i64 px) ∧ w'.cell? ⟨b6, o6 + i * 3 + 1, none⟩ = some (.int .i64 py) ∧ w'.cell? ⟨b6, o6 + i * 3 + 2, none⟩ = some (.int .i64 pt) ∧ w'.cell? ⟨b6, o6 + (i + 1) * 3, none⟩ = some (.int .i64 x) ∧ w'.cell? ⟨b6, o6 + (i + 1) * 3 + 1, none⟩ = some (.int .i64 y) ∧ w'.cell? ⟨b6, o6 + (i + 1) * 3 + 2, none⟩ = some (.int .i64 t))
                (first | go_keep | (go_split_ands; and_intros <;> (first | (refine cell_later (by assumption) ?_; first | assumption | (rw [Qt.cell (qt_of _ _)]; assumption) | (rw [Qt.cell (qt_drew _)]; assumption)) | (refine cell_later (bel_new _ _) ?_; assumption))) | (refine cell_later (by assumption) ?_; first | assumption | (rw [Qt.cell (qt_of _ _)]; assumption) | (rw [Qt.cell (qt_drew _)]; assumption)) | (refine cell_later (bel_new _ _) ?_; assumption))
                ((go_at_call 35; (with_reducible refine (rless_is false HLS.out _).mono ?_); rintro e w5 ⟨rfl, b5⟩))
              all_goals
                go_wp2
                go_ret
                exact ⟨by rw [HF.out]; rfl, (by repeat (first | exact HB2.out | refine Bl.new ?_ _ | refine Bl.call ?_ (by assumption) | refine Bl.qt ?_ (by assumption) | refine Bl.qt ?_ (qt_drew _) | refine Bl.qt ?_ (qt_of _ _)))⟩
        · have j0 : ¬ (i : Int) < (m : Int) := by omega
          obtain rfl : i = m := by omega
          have HF : Hid (b = true) := hid (HB.out.1 ⟨HN.out, by rw [HL.out]; exact HP.out⟩)
          go_wp2
          go_ret
          exact ⟨by rw [HF.out]; rfl, HBr.out⟩
end Go.Proofs.YtahodfikhocobaaGreatDoor
