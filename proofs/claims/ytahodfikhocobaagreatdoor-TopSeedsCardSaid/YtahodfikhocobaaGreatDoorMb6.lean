/- The texts GroC, GroD, TpS, TpT, merged. No theorem here is a claim by itself. -/
import Derived.Test.YtahodfikhocobaaGreatDoorMb3
import Derived.Deep.RegionHeld3
import Derived.Deep.LoopGhost
import Derived.Deep.DrawnRows
import Derived.Test.YtahodfikhocobaaGreatDoorMb5
namespace Go.Proofs.YtahodfikhocobaaGreatDoor
open Go.RowKit Pt
set_option linter.unusedVariables false
set_option linter.unusedSimpArgs false
attribute [local go_sem ↓] Go.wp_at_zero Go.wp_at_succ
def fillM (n k : Nat) : List Int := (List.range n).map fun i : Nat => if i < k then -1 else 0
theorem fillM_zero (n : Nat) : fillM n 0 = List.replicate n 0 := by
 apply List.ext_getElem
 · simp [fillM]
 · intro i h1 h2; simp [fillM]
theorem fillM_all (n : Nat) : fillM n n = List.replicate n (-1) := by
 apply List.ext_getElem
 · simp [fillM]
 ·
  intro i h1 h2
  simp [fillM] at h1
  simp [fillM, h1]
theorem fillM_set (n k : Nat) : (fillM n k).set k (-1) = fillM n (k + 1) := by
 apply List.ext_getElem
 · simp [fillM]
 ·
  intro i h1 h2
  simp only [List.getElem_set, fillM, List.getElem_map, List.getElem_range]
  by_cases h : k = i
  · subst h; simp
  ·
   simp only [h, if_false]
   by_cases h3 : i < k
   · rw [if_pos h3, if_pos (by omega)]
   · rw [if_neg h3, if_neg (by omega)]
theorem len_fillM (n k : Nat) : (fillM n k).length = n := by simp [fillM]
theorem uv_at {l : List Ed} {k : Nat} (h : k < l.length) : (uv l)[k]? = some (l[k].1, l[k].2.1) := by simp [uv, h]
theorem star_up {l : List PE} {k : Nat} {x y : Int} (hk : l[k]? = some (x, y)) (hx : 0 ≤ x) (hy : 0 ≤ y) (hne : x ≠ y) (z : Nat) :
  up (up (fun z : Nat => starK l (z : Int) k) x.toNat (starK l (x.toNat : Int) k ++ [k])) y.toNat (up (fun z : Nat => starK l (z : Int) k) x.toNat (starK l (x.toNat : Int) k ++ [k]) y.toNat ++ [k]) z = starK l (z : Int) (k + 1) := by
 have hyx : ¬ y.toNat = x.toNat := by omega
 unfold up
 by_cases h1 : z = y.toNat
 ·
  subst h1
  rw [if_pos rfl, if_neg hyx, starK_yes hk (.inr (by simp; omega))]
 ·
  rw [if_neg h1]
  by_cases h2 : z = x.toNat
  ·
   subst h2
   rw [if_pos rfl, starK_yes hk (.inl (by simp; omega))]
  ·
   rw [if_neg h2, starK_no hk]
   simp
   omega
theorem ints_of (l : List Nat) (i : Nat) (h : i < l.length) : (ints (l.map Int.ofNat))[i]? = some (.int .i64 ((l[i] : Nat) : Int)) := by simp [ints, h]
def LRel (n : Nat) (l : List PE) (v : Int) (W : World) (M : Nat) (gk : Nat) (q : Value) (wr : World) : Prop :=
 ∃ (lead os : List Int) (h b : Nat), Qu wr b q (os.drop h) ∧ M < b ∧ h ≤ os.length ∧ gk = n - h ∧ Bf n l v lead os h [] ∧ Blk wr M 3 (ints lead) ∧ Below M W wr
def LIn (n : Nat) (l : List PE) (v : Int) (W : World) (M : Nat) (h : Nat) (x : Int) (q i : Value) (wr : World) : Prop :=
 ∃ (lead os : List Int) (b k : Nat), i = .int .i64 (k : Int) ∧ k ≤ (starK l x l.length).length ∧ Qu wr b q (os.drop h) ∧ M < b ∧ os[h]? = some x ∧ Bf n l v lead os h ((starK l x l.length).take k) ∧ Blk wr M 3 (ints lead) ∧ Below M W wr
def LdPost (n : Nat) (l : List PE) (v : Int) (w : World) (e : Ending) (w' : World) : Prop :=
 ∃ v' lead, e = .returned v' ∧ LeadOk n l v lead ∧ Sl w' w'.heap.size 1 v' n (ints lead) ∧ Below w.heap.size w w'
set_option maxRecDepth 100000 in
set_option maxHeartbeats 8000000 in
theorem leads_any {n : Nat} (hn : n ≤ 1024) {v0 : Value} {m : Nat} {l : List Ed} {w : World} (hs : Sl w w.heap.size 3 v0 m (eds l)) (hf : Fst n (uv l)) {v : Int} (hv : InR n v) :
  Calls Tryz.prog 103 #[.int .i64 n, v0, .int .i64 v] w (LdPost n (uv l) v w) := by
 have hl : l.length = m := by have := hs.len; rw [len_eds] at this; omega
 subst hl
 obtain ⟨A, c, rfl, hnc, hcm, hll, hx⟩ := hs
 have HX := hid hx
 have HF := hid hf
 have hle : l.length ≤ n := by
  have := hf.2
  have h3 : (uv l).length = l.length := by simp [uv]
  omega
 have hcm' : (l.length : Int) ≤ 1024 := by omega
 have HV := hid hv
 obtain ⟨hv0, hv1⟩ := hv
 have hmk := fun w => run_make_rows n (by omega) w
 clear hll hx hf hcm
 go_enter Tryz.func103, Tryz.ntmps103
 go_wp2
 have hst0 : Stars (w.alloc (.cells (svs n fun _ => .slice none 0 0).toArray 32)) w.heap.size w.heap.size n (fun _ => .slice none 0 0) (fun x => starK (uv l) (x : Int) 0) := Stars.start (Blk.new _ _ _) (Nat.le_refl _)
 have hw0 : Below w.heap.size w (w.alloc (.cells (svs n fun _ => .slice none 0 0).toArray 32)) := bel_new _ _
 clear hmk
 go_loopw [21] (fun i wr => ∃ (k : Nat) (sv : Nat → Value), i = .int .i64 (k : Int) ∧ k ≤ l.length ∧ Hid (Stars wr w.heap.size w.heap.size n sv (fun x => starK (uv l) (x : Int) k)) ∧ Hid (Below w.heap.size w wr)) (fun i _ => l.length - (intOf i).toNat)
 case atStart => exact ⟨0, _, rfl, Nat.zero_le _, hst0, hw0⟩
 case round =>
  clear hst0 hw0
  obtain ⟨k, sv, rfl, hk, HS, HB⟩ := hrel
  by_cases hlt : k < l.length
  ·
   have hkl : (k : Int) < (l.length : Int) := by omega
   obtain ⟨b, of, rfl, hb, hc⟩ := HX.out (by omega)
   obtain ⟨q0, q1, q2⟩ := eds_cell hc hlt
   have c0 := (HB.out.cell (p := ⟨b, of + k * 3, none⟩) hb).trans q0
   have c1 := (HB.out.cell (p := ⟨b, of + k * 3 + 1, none⟩) hb).trans q1
   have c2 := (HB.out.cell (p := ⟨b, of + k * 3 + 2, none⟩) hb).trans q2
   have he := uv_at hlt
   have hxy := HF.out.1 _ (List.mem_of_getElem? he)
   have hne := HF.out.noloop he
   clear q0 q1 q2 hc
   generalize l[k].1 = x at *
   generalize l[k].2.1 = y at *
   generalize l[k].2.2 = t at *
   dsimp only at hxy hne
   obtain ⟨⟨x0, x1⟩, y0, y1⟩ := hxy
   have HE := hid (And.intro he hne)
   clear he hne
   obtain ⟨w1, hw1⟩ : ∃ w1, w1 = wr.alloc (.cells #[.int .i64 x, .int .i64 y, .int .i64 t] 35) := ⟨_, rfl⟩
   obtain ⟨KE, hKE⟩ : ∃ KE, KE = wr.heap.size := ⟨_, rfl⟩
   have HW1 := hid hw1
   have HKE := hid hKE
   have BE : Hid (Blk w1.drew KE 35 [.int .i64 x, .int .i64 y, .int .i64 t]) := hid ((show Blk w1 KE 35 [.int .i64 x, .int .i64 y, .int .i64 t] by rw [hw1, hKE]; exact Blk.new _ _ _).below (B := w1.heap.size) (qt_drew w1).bel (by rw [hw1, hKE]; simp))
   have HB1 : Hid (Below w.heap.size w w1.drew) := hid (Bl.qt (by rw [hw1]; exact Bl.new HB.out _) (qt_drew _))
   have HS1 : Hid (Stars w1.drew w.heap.size w.heap.size n sv (fun x => starK (uv l) (x : Int) k)) := hid ((show Stars w1 w.heap.size w.heap.size n sv (fun x => starK (uv l) (x : Int) k) by rw [hw1]; exact HS.out.call (bel_new _ _)).call (qt_drew _).bel)
   obtain ⟨ls, hls⟩ : ∃ ls, ls = (fun x : Nat => starK (uv l) (x : Int) k) := ⟨_, rfl⟩
   rw [← hls] at HS1
   have LS1 : Hid (∀ z, (ls z).length ≤ 1024) := hid (fun z => by
    rw [hls]
    have h1 := starK_len (uv l) (z : Int) k
    (try simp only []); omega)
   have HLS := hid hls
   clear hls
   have NKE : KE ≠ w.heap.size := by have := HS.out.1.lt; omega
   have FE : Hid (∀ z, z < n → (sv z).ownBlock ≠ some KE) := hid (fun z hz e => by have := ((HS.out.2.2.1 z hz).1.lt KE e).2; omega)
   clear hw1 hKE
   go_wp2_with fail
   rw [← HKE.out, ← HW1.out]
   have xna : x.toNat < n := by omega
   have ea : w1.drew.cell? ⟨KE, 0, none⟩ = some (.int .i64 x) := BE.out.cell 0
   have sa : w1.drew.cell? ⟨w.heap.size, x.toNat, none⟩ = some (sv x.toNat) := by rw [HS1.out.1.cell]; exact svs_at n sv xna
   have fa : w1.drew.frozen? ⟨w.heap.size, x.toNat, none⟩ = false := HS1.out.1.frozen _
   obtain ⟨wba, hwb⟩ : ∃ wb, wb = w1.drew.alloc (.cells #[.int .i64 (k : Int)] 3) := ⟨_, rfl⟩
   have HWBa := hid hwb
   have bb : Below w1.drew.heap.size w1.drew wba := by rw [hwb]; exact bel_new _ _
   have SSa := hid (HS1.out.call bb)
   have BEa := hid (BE.out.below bb BE.out.lt)
   have BBa := hid (Bl.call HB1.out bb)
   have ta : (w1.drew.alloc (.cells #[.int .i64 (k : Int)] 3)).cell? ⟨w.heap.size, x.toNat, none⟩ = some (sv x.toNat) := by rw [← hwb, SSa.out.1.cell]; exact svs_at n sv xna
   have ua : (w1.alloc (.cells #[.int .i64 (k : Int)] 3)).cell? ⟨w.heap.size, x.toNat, none⟩ = some (sv x.toNat) := ta
   have ya : (w1.drew.alloc (.cells #[.int .i64 (k : Int)] 3)).cell? ⟨KE, 0, none⟩ = some (.int .i64 x) := by rw [← hwb]; exact BEa.out.cell 0
   have za : (w1.alloc (.cells #[.int .i64 (k : Int)] 3)).cell? ⟨KE, 0, none⟩ = some (.int .i64 x) := ya
   have OWa : Hid ((w1.drew.alloc (.cells #[.int .i64 (k : Int)] 3)).ownsRow w.heap.size 3 1 (sv x.toNat) (ls x.toNat).length (ints ((ls x.toNat).map Int.ofNat))) := hid (by rw [← hwb]; exact (SSa.out.2.2.1 _ xna).1)
   have BKa : Hid (Blk (w1.drew.alloc (.cells #[.int .i64 (k : Int)] 3)) w1.drew.heap.size 3 [.int .i64 (k : Int)]) := hid (Blk.new _ _ [.int .i64 (k : Int)])
   have LNa : Hid ((ls x.toNat).length ≤ 1024) := hid (by exact LS1.out _)
   have SZa : Hid (w.heap.size ≤ (w1.drew.alloc (.cells #[.int .i64 (k : Int)] 3)).heap.size) := hid (by rw [← hwb]; exact BBa.out.size)
   clear hwb bb
   refine wp_region_held_drew (S := fun w' => w'.cell? ⟨KE, 0, none⟩ = some (.int .i64 x)) (by kernel_rfl) ea (fun hHeld => ?_)
   refine wpAnyH_take (i := 0) (oi := _) (v := ?rv1) rfl (by kernel_rfl) (by kernel_rfl) (by kernel_rfl) (fun _ _ _ h => h) (Or.inl ⟨by rfl, ?ry1⟩) (by assumption) ?rr1
   case ry1 => (intro w hSw; (try dsimp only at hSw); go_simp; try (with_reducible rfl))
   (try simp only [Act.put, putL])
   refine wpAnyH_take (i := 1) (oi := _) (v := ?rv2) rfl (by kernel_rfl) (by kernel_rfl) (by kernel_rfl) (fun _ _ _ h => h) (Or.inl ⟨by rfl, ?ry2⟩) (by assumption) ?rr2
   case ry2 => (intro w hSw; (try dsimp only at hSw); go_simp; try (with_reducible rfl))
   (try simp only [Act.put, putL])
   refine wpAnyH_take (i := 2) (oi := _) (v := ?rv3) rfl (by kernel_rfl) (by kernel_rfl) (by kernel_rfl) (fun _ _ _ h => h) (Or.inl ⟨by rfl, ?ry3⟩) (by assumption) ?rr3
   case ry3 => (intro w hSw; (try dsimp only at hSw); go_simp; try (with_reducible rfl))
   (try simp only [Act.put, putL])
   refine wpAnyH_take (i := 3) (oi := _) (v := ?rv4) rfl (by kernel_rfl) (by kernel_rfl) (by kernel_rfl) (fun _ _ _ h => h) (Or.inl ⟨by rfl, ?ry4⟩) (by assumption) ?rr4
   case ry4 => (intro w hSw; (try dsimp only at hSw); go_simp; try (with_reducible rfl))
   (try simp only [Act.put, putL])
   refine wpAnyH_take (i := 4) (oi := _) (v := ?rv5) rfl (by kernel_rfl) (by kernel_rfl) (by kernel_rfl) (fun _ _ _ h => h) (Or.inl ⟨by rfl, ?ry5⟩) (by assumption) ?rr5
   case ry5 => (intro w hSw; (try dsimp only at hSw); go_simp; try (with_reducible rfl))
   (try simp only [Act.put, putL])
   refine wpAnyH_take (i := 5) (oi := _) (v := ?rv6) rfl (by kernel_rfl) (by kernel_rfl) (by kernel_rfl) (fun _ _ _ h => h) (Or.inl ⟨by rfl, ?ry6⟩) (by assumption) ?rr6
   case ry6 => (intro w hSw; (try dsimp only at hSw); go_simp; try (with_reducible rfl))
   (try simp only [Act.put, putL])
   refine wpAnyH_take (i := 6) (oi := _) (v := ?rv7) rfl (by kernel_rfl) (by kernel_rfl) (by kernel_rfl) (fun _ _ _ h => h) (Or.inl ⟨by rfl, ?ry7⟩) (by assumption) ?rr7
   case ry7 => (intro w hSw; (try dsimp only at hSw); go_simp; try (with_reducible rfl))
   (try simp only [Act.put, putL])
   refine wpAnyH_take (i := 8) (oi := _) (v := ?rv8) rfl (by kernel_rfl) (by kernel_rfl) (by kernel_rfl) (fun _ _ _ h => h) (Or.inl ⟨by rfl, ?ry8⟩) (by assumption) ?rr8
   case ry8 => (intro w hSw; (try dsimp only at hSw); go_simp; try (with_reducible rfl))
   (try simp only [Act.put, putL])
   refine wpAnyH_ready (rs := [7, 9]) (by kernel_rfl) (by simp) ?_
   refine AllReadyH.cons (o := _) rfl (fun K hK => ?_) ?_
   ·
    go_simp
    refine hK.out _ _ ?_ (fun hHeld => ?_)
    · (first | assumption | (refine (World.cell?_of_block (Below.heap_setCell _ _ _ KE NKE)).trans ?_; assumption) | (simp [*]; done))
    clear hK K
    (try simp only [Act.put, putL])
    refine wpAnyH_ready (rs := [9]) (by kernel_rfl) (by simp) ?_
    refine AllReadyH.cons (o := _) rfl (fun K hK => ?_) ?_
    ·
     go_simp
     refine hK.out _ _ ?_ (fun hHeld => ?_)
     · (first | assumption | (refine (World.cell?_of_block (Below.heap_setCell _ _ _ KE NKE)).trans ?_; assumption) | (simp [*]; done))
     clear hK K
     (try simp only [Act.put, putL])
     refine wpAnyH_ready (rs := [10]) (by kernel_rfl) (by simp) ?_
     refine AllReadyH.cons (o := _) rfl (fun K hK => ?_) ?_
     ·
      refine gstep_app rfl _ _ Tints (by rfl) (by rfl) OWa.out (by rfl) BKa.out rfl (ints_one [(k : Int)]) (by have := LNa.out; omega) SZa.out ?_
      rintro v3 w3 hO3 hG3 ⟨gg, cap3, rfl⟩
      have hG3' : GGrw wba w3 (sv x.toNat) (.slice (some ⟨gg, 0, none⟩) ((ls x.toNat).length + 1) cap3) := by rw [HWBa.out]; exact hG3
      have BE3 := hid (hG3'.blk BEa.out (fun e => FE.out _ xna e.symm))
      have ce : w3.cell? ⟨KE, 0, none⟩ = some (.int .i64 x) := BE3.out.cell 0
      have BS3 := hid (hG3'.blk SSa.out.1 (fun e => (SSa.out.2.2.1 _ xna).2 e.symm))
      have cs : w3.cell? ⟨w.heap.size, x.toNat, none⟩ = some (sv x.toNat) := by rw [BS3.out.cell]; exact svs_at n sv xna
      have fs : w3.frozen? ⟨w.heap.size, x.toNat, none⟩ = false := BS3.out.frozen _
      refine hK.out _ _ ?_ (fun hHeld => ?_)
      · (first | assumption | (refine (World.cell?_of_block (Below.heap_setCell _ _ _ KE NKE)).trans ?_; assumption) | (simp [*]; done))
      clear hK K
      (try simp only [Act.put, putL])
      refine wpAnyH_ready (rs := [11]) (by kernel_rfl) (by simp) ?_
      refine AllReadyH.cons (o := _) rfl (fun K hK => ?_) ?_
      ·
       go_simp
       refine hK.out _ _ ?_ (fun hHeld => ?_)
       · (first | assumption | (refine (World.cell?_of_block (Below.heap_setCell _ _ _ KE NKE)).trans ?_; assumption) | (simp [*]; done))
       clear hK K
       (try simp only [Act.put, putL])
       refine wpAnyH_ready (rs := [12]) (by kernel_rfl) (by simp) ?_
       refine AllReadyH.cons (o := _) rfl (fun K hK => ?_) ?_
       ·
        go_simp
        refine hK.out _ _ ?_ (fun hHeld => ?_)
        · (first | assumption | (refine (World.cell?_of_block (Below.heap_setCell _ _ _ KE NKE)).trans ?_; assumption) | (simp [*]; done))
        clear hK K
        (try simp only [Act.put, putL])
        refine wpAnyH_done (by kernel_rfl) ?_ _
        go_wp2_with fail
        have HS2 : Hid (Stars (w3.setCell ⟨w.heap.size, x.toNat, none⟩ (.slice (some ⟨gg, 0, none⟩) ((ls x.toNat).length + 1) cap3)) w.heap.size w.heap.size n (up sv x.toNat (.slice (some ⟨gg, 0, none⟩) ((ls x.toNat).length + 1) cap3)) (up ls x.toNat (ls x.toNat ++ [k]))) := hid (SSa.out.step xna hG3' hO3)
        have HB2 : Hid (Below w.heap.size w (w3.setCell ⟨w.heap.size, x.toNat, none⟩ (.slice (some ⟨gg, 0, none⟩) ((ls x.toNat).length + 1) cap3))) := hid ((BBa.out.trans (hG3'.below (SSa.out.2.2.1 _ xna).1 BBa.out.size)).setCell (Nat.le_refl _) _)
        have BE2 := hid (BE3.out.far (p := ⟨w.heap.size, x.toNat, none⟩) NKE (.slice (some ⟨gg, 0, none⟩) ((ls x.toNat).length + 1) cap3))
        have FE2 : Hid (∀ z, z < n → (up sv x.toNat (.slice (some ⟨gg, 0, none⟩) ((ls x.toNat).length + 1) cap3) z).ownBlock ≠ some KE) := hid (fun z hz => by
         unfold up
         split
         ·
          rcases hG3'.2 with e | e
          · rw [e]; exact FE.out _ xna
          · intro e2; have := e KE e2; have := BEa.out.lt; omega
         · exact FE.out z hz)
        clear hO3 hG3 hG3' BE3 ce BS3 cs fs hHeld ea sa fa ta ua ya za c0 c1 c2
        obtain ⟨sv2, hsv2⟩ : ∃ sv2, sv2 = up sv x.toNat (.slice (some ⟨gg, 0, none⟩) ((ls x.toNat).length + 1) cap3) := ⟨_, rfl⟩
        obtain ⟨ls2, hls2⟩ : ∃ ls2, ls2 = up ls x.toNat (ls x.toNat ++ [k]) := ⟨_, rfl⟩
        obtain ⟨w4, hw4⟩ : ∃ w4, w4 = w3.setCell ⟨w.heap.size, x.toNat, none⟩ (.slice (some ⟨gg, 0, none⟩) ((ls x.toNat).length + 1) cap3) := ⟨_, rfl⟩
        have HLS2 := hid hls2
        (try dsimp only at HS2 FE2 HB2 BE2 ⊢)
        rw [← hsv2, ← hls2, ← hw4] at HS2
        rw [← hsv2] at FE2
        rw [← hw4] at HB2 BE2 ⊢
        have LS2 : Hid (∀ z, (ls2 z).length ≤ 1024) := hid (fun z => by
         rw [hls2, HLS.out]
         have h1 := starK_len (uv l) (z : Int) k
         have h2 := starK_len (uv l) (x.toNat : Int) k
         have h3 : ((fun x : Nat => starK (uv l) (x : Int) k) x.toNat).length ≤ k := h2
         unfold up
         split
         · rw [List.length_append, List.length_singleton]; omega
         · (try simp only []); omega)
        clear hsv2 hls2 hw4
        replace HS2 := hid (HS2.out.call (qt_drew w4).bel)
        replace HB2 := hid (Bl.qt HB2.out (qt_drew w4))
        replace BE2 := hid (BE2.out.below (qt_drew w4).bel BE2.out.lt)
        clear FE BE
        have FE := FE2
        have BE := BE2
        have xnb : y.toNat < n := by omega
        have eb : w4.drew.cell? ⟨KE, 1, none⟩ = some (.int .i64 y) := BE.out.cell 1
        have sb : w4.drew.cell? ⟨w.heap.size, y.toNat, none⟩ = some (sv2 y.toNat) := by rw [HS2.out.1.cell]; exact svs_at n sv2 xnb
        have fb : w4.drew.frozen? ⟨w.heap.size, y.toNat, none⟩ = false := HS2.out.1.frozen _
        obtain ⟨wbb, hwb⟩ : ∃ wb, wb = w4.drew.alloc (.cells #[.int .i64 (k : Int)] 3) := ⟨_, rfl⟩
        have HWBb := hid hwb
        have bb : Below w4.drew.heap.size w4.drew wbb := by rw [hwb]; exact bel_new _ _
        have SSb := hid (HS2.out.call bb)
        have BEb := hid (BE.out.below bb BE.out.lt)
        have BBb := hid (Bl.call HB2.out bb)
        have tb : (w4.drew.alloc (.cells #[.int .i64 (k : Int)] 3)).cell? ⟨w.heap.size, y.toNat, none⟩ = some (sv2 y.toNat) := by rw [← hwb, SSb.out.1.cell]; exact svs_at n sv2 xnb
        have ub : (w4.alloc (.cells #[.int .i64 (k : Int)] 3)).cell? ⟨w.heap.size, y.toNat, none⟩ = some (sv2 y.toNat) := tb
        have yb : (w4.drew.alloc (.cells #[.int .i64 (k : Int)] 3)).cell? ⟨KE, 1, none⟩ = some (.int .i64 y) := by rw [← hwb]; exact BEb.out.cell 1
        have zb : (w4.alloc (.cells #[.int .i64 (k : Int)] 3)).cell? ⟨KE, 1, none⟩ = some (.int .i64 y) := yb
        have OWb : Hid ((w4.drew.alloc (.cells #[.int .i64 (k : Int)] 3)).ownsRow w.heap.size 3 1 (sv2 y.toNat) (ls2 y.toNat).length (ints ((ls2 y.toNat).map Int.ofNat))) := hid (by rw [← hwb]; exact (SSb.out.2.2.1 _ xnb).1)
        have BKb : Hid (Blk (w4.drew.alloc (.cells #[.int .i64 (k : Int)] 3)) w4.drew.heap.size 3 [.int .i64 (k : Int)]) := hid (Blk.new _ _ [.int .i64 (k : Int)])
        have LNb : Hid ((ls2 y.toNat).length ≤ 1024) := hid (by exact LS2.out _)
        have SZb : Hid (w.heap.size ≤ (w4.drew.alloc (.cells #[.int .i64 (k : Int)] 3)).heap.size) := hid (by rw [← hwb]; exact BBb.out.size)
        clear hwb bb
        refine wp_region_held_drew (S := fun w' => w'.cell? ⟨KE, 1, none⟩ = some (.int .i64 y)) (by kernel_rfl) eb (fun hHeld => ?_)
        refine wpAnyH_take (i := 0) (oi := _) (v := ?rv9) rfl (by kernel_rfl) (by kernel_rfl) (by kernel_rfl) (fun _ _ _ h => h) (Or.inl ⟨by rfl, ?ry9⟩) (by assumption) ?rr9
        case ry9 => (intro w hSw; (try dsimp only at hSw); go_simp; try (with_reducible rfl))
        (try simp only [Act.put, putL])
        refine wpAnyH_take (i := 1) (oi := _) (v := ?rv10) rfl (by kernel_rfl) (by kernel_rfl) (by kernel_rfl) (fun _ _ _ h => h) (Or.inl ⟨by rfl, ?ry10⟩) (by assumption) ?rr10
        case ry10 => (intro w hSw; (try dsimp only at hSw); go_simp; try (with_reducible rfl))
        (try simp only [Act.put, putL])
        refine wpAnyH_take (i := 2) (oi := _) (v := ?rv11) rfl (by kernel_rfl) (by kernel_rfl) (by kernel_rfl) (fun _ _ _ h => h) (Or.inl ⟨by rfl, ?ry11⟩) (by assumption) ?rr11
        case ry11 => (intro w hSw; (try dsimp only at hSw); go_simp; try (with_reducible rfl))
        (try simp only [Act.put, putL])
        refine wpAnyH_take (i := 3) (oi := _) (v := ?rv12) rfl (by kernel_rfl) (by kernel_rfl) (by kernel_rfl) (fun _ _ _ h => h) (Or.inl ⟨by rfl, ?ry12⟩) (by assumption) ?rr12
        case ry12 => (intro w hSw; (try dsimp only at hSw); go_simp; try (with_reducible rfl))
        (try simp only [Act.put, putL])
        refine wpAnyH_take (i := 4) (oi := _) (v := ?rv13) rfl (by kernel_rfl) (by kernel_rfl) (by kernel_rfl) (fun _ _ _ h => h) (Or.inl ⟨by rfl, ?ry13⟩) (by assumption) ?rr13
        case ry13 => (intro w hSw; (try dsimp only at hSw); go_simp; try (with_reducible rfl))
        (try simp only [Act.put, putL])
        refine wpAnyH_take (i := 5) (oi := _) (v := ?rv14) rfl (by kernel_rfl) (by kernel_rfl) (by kernel_rfl) (fun _ _ _ h => h) (Or.inl ⟨by rfl, ?ry14⟩) (by assumption) ?rr14
        case ry14 => (intro w hSw; (try dsimp only at hSw); go_simp; try (with_reducible rfl))
        (try simp only [Act.put, putL])
        refine wpAnyH_take (i := 6) (oi := _) (v := ?rv15) rfl (by kernel_rfl) (by kernel_rfl) (by kernel_rfl) (fun _ _ _ h => h) (Or.inl ⟨by rfl, ?ry15⟩) (by assumption) ?rr15
        case ry15 => (intro w hSw; (try dsimp only at hSw); go_simp; try (with_reducible rfl))
        (try simp only [Act.put, putL])
        refine wpAnyH_take (i := 8) (oi := _) (v := ?rv16) rfl (by kernel_rfl) (by kernel_rfl) (by kernel_rfl) (fun _ _ _ h => h) (Or.inl ⟨by rfl, ?ry16⟩) (by assumption) ?rr16
        case ry16 => (intro w hSw; (try dsimp only at hSw); go_simp; try (with_reducible rfl))
        (try simp only [Act.put, putL])
        refine wpAnyH_ready (rs := [7, 9]) (by kernel_rfl) (by simp) ?_
        refine AllReadyH.cons (o := _) rfl (fun K hK => ?_) ?_
        ·
         go_simp
         refine hK.out _ _ ?_ (fun hHeld => ?_)
         · (first | assumption | (refine (World.cell?_of_block (Below.heap_setCell _ _ _ KE NKE)).trans ?_; assumption) | (simp [*]; done))
         clear hK K
         (try simp only [Act.put, putL])
         refine wpAnyH_ready (rs := [9]) (by kernel_rfl) (by simp) ?_
         refine AllReadyH.cons (o := _) rfl (fun K hK => ?_) ?_
         ·
          go_simp
          refine hK.out _ _ ?_ (fun hHeld => ?_)
          · (first | assumption | (refine (World.cell?_of_block (Below.heap_setCell _ _ _ KE NKE)).trans ?_; assumption) | (simp [*]; done))
          clear hK K
          (try simp only [Act.put, putL])
          refine wpAnyH_ready (rs := [10]) (by kernel_rfl) (by simp) ?_
          refine AllReadyH.cons (o := _) rfl (fun K hK => ?_) ?_
          ·
           refine gstep_app rfl _ _ Tints (by rfl) (by rfl) OWb.out (by rfl) BKb.out rfl (ints_one [(k : Int)]) (by have := LNb.out; omega) SZb.out ?_
           rintro v3 w3 hO3 hG3 ⟨gg, cap3, rfl⟩
           have hG3' : GGrw wbb w3 (sv2 y.toNat) (.slice (some ⟨gg, 0, none⟩) ((ls2 y.toNat).length + 1) cap3) := by rw [HWBb.out]; exact hG3
           have BE3 := hid (hG3'.blk BEb.out (fun e => FE.out _ xnb e.symm))
           have ce : w3.cell? ⟨KE, 1, none⟩ = some (.int .i64 y) := BE3.out.cell 1
           have BS3 := hid (hG3'.blk SSb.out.1 (fun e => (SSb.out.2.2.1 _ xnb).2 e.symm))
           have cs : w3.cell? ⟨w.heap.size, y.toNat, none⟩ = some (sv2 y.toNat) := by rw [BS3.out.cell]; exact svs_at n sv2 xnb
           have fs : w3.frozen? ⟨w.heap.size, y.toNat, none⟩ = false := BS3.out.frozen _
           refine hK.out _ _ ?_ (fun hHeld => ?_)
           · (first | assumption | (refine (World.cell?_of_block (Below.heap_setCell _ _ _ KE NKE)).trans ?_; assumption) | (simp [*]; done))
           clear hK K
           (try simp only [Act.put, putL])
           refine wpAnyH_ready (rs := [11]) (by kernel_rfl) (by simp) ?_
           refine AllReadyH.cons (o := _) rfl (fun K hK => ?_) ?_
           ·
            go_simp
            refine hK.out _ _ ?_ (fun hHeld => ?_)
            · (first | assumption | (refine (World.cell?_of_block (Below.heap_setCell _ _ _ KE NKE)).trans ?_; assumption) | (simp [*]; done))
            clear hK K
            (try simp only [Act.put, putL])
            refine wpAnyH_ready (rs := [12]) (by kernel_rfl) (by simp) ?_
            refine AllReadyH.cons (o := _) rfl (fun K hK => ?_) ?_
            ·
             go_simp
             refine hK.out _ _ ?_ (fun hHeld => ?_)
             · (first | assumption | (refine (World.cell?_of_block (Below.heap_setCell _ _ _ KE NKE)).trans ?_; assumption) | (simp [*]; done))
             clear hK K
             (try simp only [Act.put, putL])
             refine wpAnyH_done (by kernel_rfl) ?_ _
             go_wp2_with fail
             have HS5 : Hid (Stars (w3.setCell ⟨w.heap.size, y.toNat, none⟩ (.slice (some ⟨gg, 0, none⟩) ((ls2 y.toNat).length + 1) cap3)) w.heap.size w.heap.size n (up sv2 y.toNat (.slice (some ⟨gg, 0, none⟩) ((ls2 y.toNat).length + 1) cap3)) (up ls2 y.toNat (ls2 y.toNat ++ [k]))) := hid (SSb.out.step xnb hG3' hO3)
             have HB5 : Hid (Below w.heap.size w (w3.setCell ⟨w.heap.size, y.toNat, none⟩ (.slice (some ⟨gg, 0, none⟩) ((ls2 y.toNat).length + 1) cap3))) := hid ((BBb.out.trans (hG3'.below (SSb.out.2.2.1 _ xnb).1 BBb.out.size)).setCell (Nat.le_refl _) _)
             have BE5 := hid (BE3.out.far (p := ⟨w.heap.size, y.toNat, none⟩) NKE (.slice (some ⟨gg, 0, none⟩) ((ls2 y.toNat).length + 1) cap3))
             have FE5 : Hid (∀ z, z < n → (up sv2 y.toNat (.slice (some ⟨gg, 0, none⟩) ((ls2 y.toNat).length + 1) cap3) z).ownBlock ≠ some KE) := hid (fun z hz => by
              unfold up
              split
              ·
               rcases hG3'.2 with e | e
               · rw [e]; exact FE.out _ xnb
               · intro e2; have := e KE e2; have := BEb.out.lt; omega
              · exact FE.out z hz)
             go_roundw
             case rel =>
              refine ⟨k + 1, _, by go_num, by omega, hid (HS5.out.congr fun z _ => ?_), HB5⟩
              rw [HLS2.out, HLS.out]
              exact star_up HE.out.1 x0 y0 HE.out.2 z
             case measure => simp [intOf]; omega
            exact AllReadyH.nil
           exact AllReadyH.nil
          exact AllReadyH.nil
         exact AllReadyH.nil
        refine AllReadyH.cons (o := _) rfl (fun K hK => ?_) ?_
        ·
         go_simp
         refine hK.out _ _ ?_ (fun hHeld => ?_)
         · (first | assumption | (refine (World.cell?_of_block (Below.heap_setCell _ _ _ KE NKE)).trans ?_; assumption) | (simp [*]; done))
         clear hK K
         (try simp only [Act.put, putL])
         refine wpAnyH_ready (rs := [7]) (by kernel_rfl) (by simp) ?_
         refine AllReadyH.cons (o := _) rfl (fun K hK => ?_) ?_
         ·
          go_simp
          refine hK.out _ _ ?_ (fun hHeld => ?_)
          · (first | assumption | (refine (World.cell?_of_block (Below.heap_setCell _ _ _ KE NKE)).trans ?_; assumption) | (simp [*]; done))
          clear hK K
          (try simp only [Act.put, putL])
          refine wpAnyH_ready (rs := [10]) (by kernel_rfl) (by simp) ?_
          refine AllReadyH.cons (o := _) rfl (fun K hK => ?_) ?_
          ·
           refine gstep_app rfl _ _ Tints (by rfl) (by rfl) OWb.out (by rfl) BKb.out rfl (ints_one [(k : Int)]) (by have := LNb.out; omega) SZb.out ?_
           rintro v3 w3 hO3 hG3 ⟨gg, cap3, rfl⟩
           have hG3' : GGrw wbb w3 (sv2 y.toNat) (.slice (some ⟨gg, 0, none⟩) ((ls2 y.toNat).length + 1) cap3) := by rw [HWBb.out]; exact hG3
           have BE3 := hid (hG3'.blk BEb.out (fun e => FE.out _ xnb e.symm))
           have ce : w3.cell? ⟨KE, 1, none⟩ = some (.int .i64 y) := BE3.out.cell 1
           have BS3 := hid (hG3'.blk SSb.out.1 (fun e => (SSb.out.2.2.1 _ xnb).2 e.symm))
           have cs : w3.cell? ⟨w.heap.size, y.toNat, none⟩ = some (sv2 y.toNat) := by rw [BS3.out.cell]; exact svs_at n sv2 xnb
           have fs : w3.frozen? ⟨w.heap.size, y.toNat, none⟩ = false := BS3.out.frozen _
           refine hK.out _ _ ?_ (fun hHeld => ?_)
           · (first | assumption | (refine (World.cell?_of_block (Below.heap_setCell _ _ _ KE NKE)).trans ?_; assumption) | (simp [*]; done))
           clear hK K
           (try simp only [Act.put, putL])
           refine wpAnyH_ready (rs := [11]) (by kernel_rfl) (by simp) ?_
           refine AllReadyH.cons (o := _) rfl (fun K hK => ?_) ?_
           ·
            go_simp
            refine hK.out _ _ ?_ (fun hHeld => ?_)
            · (first | assumption | (refine (World.cell?_of_block (Below.heap_setCell _ _ _ KE NKE)).trans ?_; assumption) | (simp [*]; done))
            clear hK K
            (try simp only [Act.put, putL])
            refine wpAnyH_ready (rs := [12]) (by kernel_rfl) (by simp) ?_
            refine AllReadyH.cons (o := _) rfl (fun K hK => ?_) ?_
            ·
             go_simp
             refine hK.out _ _ ?_ (fun hHeld => ?_)
             · (first | assumption | (refine (World.cell?_of_block (Below.heap_setCell _ _ _ KE NKE)).trans ?_; assumption) | (simp [*]; done))
             clear hK K
             (try simp only [Act.put, putL])
             refine wpAnyH_done (by kernel_rfl) ?_ _
             go_wp2_with fail
             have HS5 : Hid (Stars (w3.setCell ⟨w.heap.size, y.toNat, none⟩ (.slice (some ⟨gg, 0, none⟩) ((ls2 y.toNat).length + 1) cap3)) w.heap.size w.heap.size n (up sv2 y.toNat (.slice (some ⟨gg, 0, none⟩) ((ls2 y.toNat).length + 1) cap3)) (up ls2 y.toNat (ls2 y.toNat ++ [k]))) := hid (SSb.out.step xnb hG3' hO3)
             have HB5 : Hid (Below w.heap.size w (w3.setCell ⟨w.heap.size, y.toNat, none⟩ (.slice (some ⟨gg, 0, none⟩) ((ls2 y.toNat).length + 1) cap3))) := hid ((BBb.out.trans (hG3'.below (SSb.out.2.2.1 _ xnb).1 BBb.out.size)).setCell (Nat.le_refl _) _)
             have BE5 := hid (BE3.out.far (p := ⟨w.heap.size, y.toNat, none⟩) NKE (.slice (some ⟨gg, 0, none⟩) ((ls2 y.toNat).length + 1) cap3))
             have FE5 : Hid (∀ z, z < n → (up sv2 y.toNat (.slice (some ⟨gg, 0, none⟩) ((ls2 y.toNat).length + 1) cap3) z).ownBlock ≠ some KE) := hid (fun z hz => by
              unfold up
              split
              ·
               rcases hG3'.2 with e | e
               · rw [e]; exact FE.out _ xnb
               · intro e2; have := e KE e2; have := BEb.out.lt; omega
              · exact FE.out z hz)
             go_roundw
             case rel =>
              refine ⟨k + 1, _, by go_num, by omega, hid (HS5.out.congr fun z _ => ?_), HB5⟩
              rw [HLS2.out, HLS.out]
              exact star_up HE.out.1 x0 y0 HE.out.2 z
             case measure => simp [intOf]; omega
            exact AllReadyH.nil
           exact AllReadyH.nil
          exact AllReadyH.nil
         exact AllReadyH.nil
        exact AllReadyH.nil
       exact AllReadyH.nil
      exact AllReadyH.nil
     exact AllReadyH.nil
    exact AllReadyH.nil
   refine AllReadyH.cons (o := _) rfl (fun K hK => ?_) ?_
   ·
    go_simp
    refine hK.out _ _ ?_ (fun hHeld => ?_)
    · (first | assumption | (refine (World.cell?_of_block (Below.heap_setCell _ _ _ KE NKE)).trans ?_; assumption) | (simp [*]; done))
    clear hK K
    (try simp only [Act.put, putL])
    refine wpAnyH_ready (rs := [7]) (by kernel_rfl) (by simp) ?_
    refine AllReadyH.cons (o := _) rfl (fun K hK => ?_) ?_
    ·
     go_simp
     refine hK.out _ _ ?_ (fun hHeld => ?_)
     · (first | assumption | (refine (World.cell?_of_block (Below.heap_setCell _ _ _ KE NKE)).trans ?_; assumption) | (simp [*]; done))
     clear hK K
     (try simp only [Act.put, putL])
     refine wpAnyH_ready (rs := [10]) (by kernel_rfl) (by simp) ?_
     refine AllReadyH.cons (o := _) rfl (fun K hK => ?_) ?_
     ·
      refine gstep_app rfl _ _ Tints (by rfl) (by rfl) OWa.out (by rfl) BKa.out rfl (ints_one [(k : Int)]) (by have := LNa.out; omega) SZa.out ?_
      rintro v3 w3 hO3 hG3 ⟨gg, cap3, rfl⟩
      have hG3' : GGrw wba w3 (sv x.toNat) (.slice (some ⟨gg, 0, none⟩) ((ls x.toNat).length + 1) cap3) := by rw [HWBa.out]; exact hG3
      have BE3 := hid (hG3'.blk BEa.out (fun e => FE.out _ xna e.symm))
      have ce : w3.cell? ⟨KE, 0, none⟩ = some (.int .i64 x) := BE3.out.cell 0
      have BS3 := hid (hG3'.blk SSa.out.1 (fun e => (SSa.out.2.2.1 _ xna).2 e.symm))
      have cs : w3.cell? ⟨w.heap.size, x.toNat, none⟩ = some (sv x.toNat) := by rw [BS3.out.cell]; exact svs_at n sv xna
      have fs : w3.frozen? ⟨w.heap.size, x.toNat, none⟩ = false := BS3.out.frozen _
      refine hK.out _ _ ?_ (fun hHeld => ?_)
      · (first | assumption | (refine (World.cell?_of_block (Below.heap_setCell _ _ _ KE NKE)).trans ?_; assumption) | (simp [*]; done))
      clear hK K
      (try simp only [Act.put, putL])
      refine wpAnyH_ready (rs := [11]) (by kernel_rfl) (by simp) ?_
      refine AllReadyH.cons (o := _) rfl (fun K hK => ?_) ?_
      ·
       go_simp
       refine hK.out _ _ ?_ (fun hHeld => ?_)
       · (first | assumption | (refine (World.cell?_of_block (Below.heap_setCell _ _ _ KE NKE)).trans ?_; assumption) | (simp [*]; done))
       clear hK K
       (try simp only [Act.put, putL])
       refine wpAnyH_ready (rs := [12]) (by kernel_rfl) (by simp) ?_
       refine AllReadyH.cons (o := _) rfl (fun K hK => ?_) ?_
       ·
        go_simp
        refine hK.out _ _ ?_ (fun hHeld => ?_)
        · (first | assumption | (refine (World.cell?_of_block (Below.heap_setCell _ _ _ KE NKE)).trans ?_; assumption) | (simp [*]; done))
        clear hK K
        (try simp only [Act.put, putL])
        refine wpAnyH_done (by kernel_rfl) ?_ _
        go_wp2_with fail
        have HS2 : Hid (Stars (w3.setCell ⟨w.heap.size, x.toNat, none⟩ (.slice (some ⟨gg, 0, none⟩) ((ls x.toNat).length + 1) cap3)) w.heap.size w.heap.size n (up sv x.toNat (.slice (some ⟨gg, 0, none⟩) ((ls x.toNat).length + 1) cap3)) (up ls x.toNat (ls x.toNat ++ [k]))) := hid (SSa.out.step xna hG3' hO3)
        have HB2 : Hid (Below w.heap.size w (w3.setCell ⟨w.heap.size, x.toNat, none⟩ (.slice (some ⟨gg, 0, none⟩) ((ls x.toNat).length + 1) cap3))) := hid ((BBa.out.trans (hG3'.below (SSa.out.2.2.1 _ xna).1 BBa.out.size)).setCell (Nat.le_refl _) _)
        have BE2 := hid (BE3.out.far (p := ⟨w.heap.size, x.toNat, none⟩) NKE (.slice (some ⟨gg, 0, none⟩) ((ls x.toNat).length + 1) cap3))
        have FE2 : Hid (∀ z, z < n → (up sv x.toNat (.slice (some ⟨gg, 0, none⟩) ((ls x.toNat).length + 1) cap3) z).ownBlock ≠ some KE) := hid (fun z hz => by
         unfold up
         split
         ·
          rcases hG3'.2 with e | e
          · rw [e]; exact FE.out _ xna
          · intro e2; have := e KE e2; have := BEa.out.lt; omega
         · exact FE.out z hz)
        clear hO3 hG3 hG3' BE3 ce BS3 cs fs hHeld ea sa fa ta ua ya za c0 c1 c2
        obtain ⟨sv2, hsv2⟩ : ∃ sv2, sv2 = up sv x.toNat (.slice (some ⟨gg, 0, none⟩) ((ls x.toNat).length + 1) cap3) := ⟨_, rfl⟩
        obtain ⟨ls2, hls2⟩ : ∃ ls2, ls2 = up ls x.toNat (ls x.toNat ++ [k]) := ⟨_, rfl⟩
        obtain ⟨w4, hw4⟩ : ∃ w4, w4 = w3.setCell ⟨w.heap.size, x.toNat, none⟩ (.slice (some ⟨gg, 0, none⟩) ((ls x.toNat).length + 1) cap3) := ⟨_, rfl⟩
        have HLS2 := hid hls2
        (try dsimp only at HS2 FE2 HB2 BE2 ⊢)
        rw [← hsv2, ← hls2, ← hw4] at HS2
        rw [← hsv2] at FE2
        rw [← hw4] at HB2 BE2 ⊢
        have LS2 : Hid (∀ z, (ls2 z).length ≤ 1024) := hid (fun z => by
         rw [hls2, HLS.out]
         have h1 := starK_len (uv l) (z : Int) k
         have h2 := starK_len (uv l) (x.toNat : Int) k
         have h3 : ((fun x : Nat => starK (uv l) (x : Int) k) x.toNat).length ≤ k := h2
         unfold up
         split
         · rw [List.length_append, List.length_singleton]; omega
         · (try simp only []); omega)
        clear hsv2 hls2 hw4
        replace HS2 := hid (HS2.out.call (qt_drew w4).bel)
        replace HB2 := hid (Bl.qt HB2.out (qt_drew w4))
        replace BE2 := hid (BE2.out.below (qt_drew w4).bel BE2.out.lt)
        clear FE BE
        have FE := FE2
        have BE := BE2
        have xnb : y.toNat < n := by omega
        have eb : w4.drew.cell? ⟨KE, 1, none⟩ = some (.int .i64 y) := BE.out.cell 1
        have sb : w4.drew.cell? ⟨w.heap.size, y.toNat, none⟩ = some (sv2 y.toNat) := by rw [HS2.out.1.cell]; exact svs_at n sv2 xnb
        have fb : w4.drew.frozen? ⟨w.heap.size, y.toNat, none⟩ = false := HS2.out.1.frozen _
        obtain ⟨wbb, hwb⟩ : ∃ wb, wb = w4.drew.alloc (.cells #[.int .i64 (k : Int)] 3) := ⟨_, rfl⟩
        have HWBb := hid hwb
        have bb : Below w4.drew.heap.size w4.drew wbb := by rw [hwb]; exact bel_new _ _
        have SSb := hid (HS2.out.call bb)
        have BEb := hid (BE.out.below bb BE.out.lt)
        have BBb := hid (Bl.call HB2.out bb)
        have tb : (w4.drew.alloc (.cells #[.int .i64 (k : Int)] 3)).cell? ⟨w.heap.size, y.toNat, none⟩ = some (sv2 y.toNat) := by rw [← hwb, SSb.out.1.cell]; exact svs_at n sv2 xnb
        have ub : (w4.alloc (.cells #[.int .i64 (k : Int)] 3)).cell? ⟨w.heap.size, y.toNat, none⟩ = some (sv2 y.toNat) := tb
        have yb : (w4.drew.alloc (.cells #[.int .i64 (k : Int)] 3)).cell? ⟨KE, 1, none⟩ = some (.int .i64 y) := by rw [← hwb]; exact BEb.out.cell 1
        have zb : (w4.alloc (.cells #[.int .i64 (k : Int)] 3)).cell? ⟨KE, 1, none⟩ = some (.int .i64 y) := yb
        have OWb : Hid ((w4.drew.alloc (.cells #[.int .i64 (k : Int)] 3)).ownsRow w.heap.size 3 1 (sv2 y.toNat) (ls2 y.toNat).length (ints ((ls2 y.toNat).map Int.ofNat))) := hid (by rw [← hwb]; exact (SSb.out.2.2.1 _ xnb).1)
        have BKb : Hid (Blk (w4.drew.alloc (.cells #[.int .i64 (k : Int)] 3)) w4.drew.heap.size 3 [.int .i64 (k : Int)]) := hid (Blk.new _ _ [.int .i64 (k : Int)])
        have LNb : Hid ((ls2 y.toNat).length ≤ 1024) := hid (by exact LS2.out _)
        have SZb : Hid (w.heap.size ≤ (w4.drew.alloc (.cells #[.int .i64 (k : Int)] 3)).heap.size) := hid (by rw [← hwb]; exact BBb.out.size)
        clear hwb bb
        refine wp_region_held_drew (S := fun w' => w'.cell? ⟨KE, 1, none⟩ = some (.int .i64 y)) (by kernel_rfl) eb (fun hHeld => ?_)
        refine wpAnyH_take (i := 0) (oi := _) (v := ?rv17) rfl (by kernel_rfl) (by kernel_rfl) (by kernel_rfl) (fun _ _ _ h => h) (Or.inl ⟨by rfl, ?ry17⟩) (by assumption) ?rr17
        case ry17 => (intro w hSw; (try dsimp only at hSw); go_simp; try (with_reducible rfl))
        (try simp only [Act.put, putL])
        refine wpAnyH_take (i := 1) (oi := _) (v := ?rv18) rfl (by kernel_rfl) (by kernel_rfl) (by kernel_rfl) (fun _ _ _ h => h) (Or.inl ⟨by rfl, ?ry18⟩) (by assumption) ?rr18
        case ry18 => (intro w hSw; (try dsimp only at hSw); go_simp; try (with_reducible rfl))
        (try simp only [Act.put, putL])
        refine wpAnyH_take (i := 2) (oi := _) (v := ?rv19) rfl (by kernel_rfl) (by kernel_rfl) (by kernel_rfl) (fun _ _ _ h => h) (Or.inl ⟨by rfl, ?ry19⟩) (by assumption) ?rr19
        case ry19 => (intro w hSw; (try dsimp only at hSw); go_simp; try (with_reducible rfl))
        (try simp only [Act.put, putL])
        refine wpAnyH_take (i := 3) (oi := _) (v := ?rv20) rfl (by kernel_rfl) (by kernel_rfl) (by kernel_rfl) (fun _ _ _ h => h) (Or.inl ⟨by rfl, ?ry20⟩) (by assumption) ?rr20
        case ry20 => (intro w hSw; (try dsimp only at hSw); go_simp; try (with_reducible rfl))
        (try simp only [Act.put, putL])
        refine wpAnyH_take (i := 4) (oi := _) (v := ?rv21) rfl (by kernel_rfl) (by kernel_rfl) (by kernel_rfl) (fun _ _ _ h => h) (Or.inl ⟨by rfl, ?ry21⟩) (by assumption) ?rr21
        case ry21 => (intro w hSw; (try dsimp only at hSw); go_simp; try (with_reducible rfl))
        (try simp only [Act.put, putL])
        refine wpAnyH_take (i := 5) (oi := _) (v := ?rv22) rfl (by kernel_rfl) (by kernel_rfl) (by kernel_rfl) (fun _ _ _ h => h) (Or.inl ⟨by rfl, ?ry22⟩) (by assumption) ?rr22
        case ry22 => (intro w hSw; (try dsimp only at hSw); go_simp; try (with_reducible rfl))
        (try simp only [Act.put, putL])
        refine wpAnyH_take (i := 6) (oi := _) (v := ?rv23) rfl (by kernel_rfl) (by kernel_rfl) (by kernel_rfl) (fun _ _ _ h => h) (Or.inl ⟨by rfl, ?ry23⟩) (by assumption) ?rr23
        case ry23 => (intro w hSw; (try dsimp only at hSw); go_simp; try (with_reducible rfl))
        (try simp only [Act.put, putL])
        refine wpAnyH_take (i := 8) (oi := _) (v := ?rv24) rfl (by kernel_rfl) (by kernel_rfl) (by kernel_rfl) (fun _ _ _ h => h) (Or.inl ⟨by rfl, ?ry24⟩) (by assumption) ?rr24
        case ry24 => (intro w hSw; (try dsimp only at hSw); go_simp; try (with_reducible rfl))
        (try simp only [Act.put, putL])
        refine wpAnyH_ready (rs := [7, 9]) (by kernel_rfl) (by simp) ?_
        refine AllReadyH.cons (o := _) rfl (fun K hK => ?_) ?_
        ·
         go_simp
         refine hK.out _ _ ?_ (fun hHeld => ?_)
         · (first | assumption | (refine (World.cell?_of_block (Below.heap_setCell _ _ _ KE NKE)).trans ?_; assumption) | (simp [*]; done))
         clear hK K
         (try simp only [Act.put, putL])
         refine wpAnyH_ready (rs := [9]) (by kernel_rfl) (by simp) ?_
         refine AllReadyH.cons (o := _) rfl (fun K hK => ?_) ?_
         ·
          go_simp
          refine hK.out _ _ ?_ (fun hHeld => ?_)
          · (first | assumption | (refine (World.cell?_of_block (Below.heap_setCell _ _ _ KE NKE)).trans ?_; assumption) | (simp [*]; done))
          clear hK K
          (try simp only [Act.put, putL])
          refine wpAnyH_ready (rs := [10]) (by kernel_rfl) (by simp) ?_
          refine AllReadyH.cons (o := _) rfl (fun K hK => ?_) ?_
          ·
           refine gstep_app rfl _ _ Tints (by rfl) (by rfl) OWb.out (by rfl) BKb.out rfl (ints_one [(k : Int)]) (by have := LNb.out; omega) SZb.out ?_
           rintro v3 w3 hO3 hG3 ⟨gg, cap3, rfl⟩
           have hG3' : GGrw wbb w3 (sv2 y.toNat) (.slice (some ⟨gg, 0, none⟩) ((ls2 y.toNat).length + 1) cap3) := by rw [HWBb.out]; exact hG3
           have BE3 := hid (hG3'.blk BEb.out (fun e => FE.out _ xnb e.symm))
           have ce : w3.cell? ⟨KE, 1, none⟩ = some (.int .i64 y) := BE3.out.cell 1
           have BS3 := hid (hG3'.blk SSb.out.1 (fun e => (SSb.out.2.2.1 _ xnb).2 e.symm))
           have cs : w3.cell? ⟨w.heap.size, y.toNat, none⟩ = some (sv2 y.toNat) := by rw [BS3.out.cell]; exact svs_at n sv2 xnb
           have fs : w3.frozen? ⟨w.heap.size, y.toNat, none⟩ = false := BS3.out.frozen _
           refine hK.out _ _ ?_ (fun hHeld => ?_)
           · (first | assumption | (refine (World.cell?_of_block (Below.heap_setCell _ _ _ KE NKE)).trans ?_; assumption) | (simp [*]; done))
           clear hK K
           (try simp only [Act.put, putL])
           refine wpAnyH_ready (rs := [11]) (by kernel_rfl) (by simp) ?_
           refine AllReadyH.cons (o := _) rfl (fun K hK => ?_) ?_
           ·
            go_simp
            refine hK.out _ _ ?_ (fun hHeld => ?_)
            · (first | assumption | (refine (World.cell?_of_block (Below.heap_setCell _ _ _ KE NKE)).trans ?_; assumption) | (simp [*]; done))
            clear hK K
            (try simp only [Act.put, putL])
            refine wpAnyH_ready (rs := [12]) (by kernel_rfl) (by simp) ?_
            refine AllReadyH.cons (o := _) rfl (fun K hK => ?_) ?_
            ·
             go_simp
             refine hK.out _ _ ?_ (fun hHeld => ?_)
             · (first | assumption | (refine (World.cell?_of_block (Below.heap_setCell _ _ _ KE NKE)).trans ?_; assumption) | (simp [*]; done))
             clear hK K
             (try simp only [Act.put, putL])
             refine wpAnyH_done (by kernel_rfl) ?_ _
             go_wp2_with fail
             have HS5 : Hid (Stars (w3.setCell ⟨w.heap.size, y.toNat, none⟩ (.slice (some ⟨gg, 0, none⟩) ((ls2 y.toNat).length + 1) cap3)) w.heap.size w.heap.size n (up sv2 y.toNat (.slice (some ⟨gg, 0, none⟩) ((ls2 y.toNat).length + 1) cap3)) (up ls2 y.toNat (ls2 y.toNat ++ [k]))) := hid (SSb.out.step xnb hG3' hO3)
             have HB5 : Hid (Below w.heap.size w (w3.setCell ⟨w.heap.size, y.toNat, none⟩ (.slice (some ⟨gg, 0, none⟩) ((ls2 y.toNat).length + 1) cap3))) := hid ((BBb.out.trans (hG3'.below (SSb.out.2.2.1 _ xnb).1 BBb.out.size)).setCell (Nat.le_refl _) _)
             have BE5 := hid (BE3.out.far (p := ⟨w.heap.size, y.toNat, none⟩) NKE (.slice (some ⟨gg, 0, none⟩) ((ls2 y.toNat).length + 1) cap3))
             have FE5 : Hid (∀ z, z < n → (up sv2 y.toNat (.slice (some ⟨gg, 0, none⟩) ((ls2 y.toNat).length + 1) cap3) z).ownBlock ≠ some KE) := hid (fun z hz => by
              unfold up
              split
              ·
               rcases hG3'.2 with e | e
               · rw [e]; exact FE.out _ xnb
               · intro e2; have := e KE e2; have := BEb.out.lt; omega
              · exact FE.out z hz)
             go_roundw
             case rel =>
              refine ⟨k + 1, _, by go_num, by omega, hid (HS5.out.congr fun z _ => ?_), HB5⟩
              rw [HLS2.out, HLS.out]
              exact star_up HE.out.1 x0 y0 HE.out.2 z
             case measure => simp [intOf]; omega
            exact AllReadyH.nil
           exact AllReadyH.nil
          exact AllReadyH.nil
         exact AllReadyH.nil
        refine AllReadyH.cons (o := _) rfl (fun K hK => ?_) ?_
        ·
         go_simp
         refine hK.out _ _ ?_ (fun hHeld => ?_)
         · (first | assumption | (refine (World.cell?_of_block (Below.heap_setCell _ _ _ KE NKE)).trans ?_; assumption) | (simp [*]; done))
         clear hK K
         (try simp only [Act.put, putL])
         refine wpAnyH_ready (rs := [7]) (by kernel_rfl) (by simp) ?_
         refine AllReadyH.cons (o := _) rfl (fun K hK => ?_) ?_
         ·
          go_simp
          refine hK.out _ _ ?_ (fun hHeld => ?_)
          · (first | assumption | (refine (World.cell?_of_block (Below.heap_setCell _ _ _ KE NKE)).trans ?_; assumption) | (simp [*]; done))
          clear hK K
          (try simp only [Act.put, putL])
          refine wpAnyH_ready (rs := [10]) (by kernel_rfl) (by simp) ?_
          refine AllReadyH.cons (o := _) rfl (fun K hK => ?_) ?_
          ·
           refine gstep_app rfl _ _ Tints (by rfl) (by rfl) OWb.out (by rfl) BKb.out rfl (ints_one [(k : Int)]) (by have := LNb.out; omega) SZb.out ?_
           rintro v3 w3 hO3 hG3 ⟨gg, cap3, rfl⟩
           have hG3' : GGrw wbb w3 (sv2 y.toNat) (.slice (some ⟨gg, 0, none⟩) ((ls2 y.toNat).length + 1) cap3) := by rw [HWBb.out]; exact hG3
           have BE3 := hid (hG3'.blk BEb.out (fun e => FE.out _ xnb e.symm))
           have ce : w3.cell? ⟨KE, 1, none⟩ = some (.int .i64 y) := BE3.out.cell 1
           have BS3 := hid (hG3'.blk SSb.out.1 (fun e => (SSb.out.2.2.1 _ xnb).2 e.symm))
           have cs : w3.cell? ⟨w.heap.size, y.toNat, none⟩ = some (sv2 y.toNat) := by rw [BS3.out.cell]; exact svs_at n sv2 xnb
           have fs : w3.frozen? ⟨w.heap.size, y.toNat, none⟩ = false := BS3.out.frozen _
           refine hK.out _ _ ?_ (fun hHeld => ?_)
           · (first | assumption | (refine (World.cell?_of_block (Below.heap_setCell _ _ _ KE NKE)).trans ?_; assumption) | (simp [*]; done))
           clear hK K
           (try simp only [Act.put, putL])
           refine wpAnyH_ready (rs := [11]) (by kernel_rfl) (by simp) ?_
           refine AllReadyH.cons (o := _) rfl (fun K hK => ?_) ?_
           ·
            go_simp
            refine hK.out _ _ ?_ (fun hHeld => ?_)
            · (first | assumption | (refine (World.cell?_of_block (Below.heap_setCell _ _ _ KE NKE)).trans ?_; assumption) | (simp [*]; done))
            clear hK K
            (try simp only [Act.put, putL])
            refine wpAnyH_ready (rs := [12]) (by kernel_rfl) (by simp) ?_
            refine AllReadyH.cons (o := _) rfl (fun K hK => ?_) ?_
            ·
             go_simp
             refine hK.out _ _ ?_ (fun hHeld => ?_)
             · (first | assumption | (refine (World.cell?_of_block (Below.heap_setCell _ _ _ KE NKE)).trans ?_; assumption) | (simp [*]; done))
             clear hK K
             (try simp only [Act.put, putL])
             refine wpAnyH_done (by kernel_rfl) ?_ _
             go_wp2_with fail
             have HS5 : Hid (Stars (w3.setCell ⟨w.heap.size, y.toNat, none⟩ (.slice (some ⟨gg, 0, none⟩) ((ls2 y.toNat).length + 1) cap3)) w.heap.size w.heap.size n (up sv2 y.toNat (.slice (some ⟨gg, 0, none⟩) ((ls2 y.toNat).length + 1) cap3)) (up ls2 y.toNat (ls2 y.toNat ++ [k]))) := hid (SSb.out.step xnb hG3' hO3)
             have HB5 : Hid (Below w.heap.size w (w3.setCell ⟨w.heap.size, y.toNat, none⟩ (.slice (some ⟨gg, 0, none⟩) ((ls2 y.toNat).length + 1) cap3))) := hid ((BBb.out.trans (hG3'.below (SSb.out.2.2.1 _ xnb).1 BBb.out.size)).setCell (Nat.le_refl _) _)
             have BE5 := hid (BE3.out.far (p := ⟨w.heap.size, y.toNat, none⟩) NKE (.slice (some ⟨gg, 0, none⟩) ((ls2 y.toNat).length + 1) cap3))
             have FE5 : Hid (∀ z, z < n → (up sv2 y.toNat (.slice (some ⟨gg, 0, none⟩) ((ls2 y.toNat).length + 1) cap3) z).ownBlock ≠ some KE) := hid (fun z hz => by
              unfold up
              split
              ·
               rcases hG3'.2 with e | e
               · rw [e]; exact FE.out _ xnb
               · intro e2; have := e KE e2; have := BEb.out.lt; omega
              · exact FE.out z hz)
             go_roundw
             case rel =>
              refine ⟨k + 1, _, by go_num, by omega, hid (HS5.out.congr fun z _ => ?_), HB5⟩
              rw [HLS2.out, HLS.out]
              exact star_up HE.out.1 x0 y0 HE.out.2 z
             case measure => simp [intOf]; omega
            exact AllReadyH.nil
           exact AllReadyH.nil
          exact AllReadyH.nil
         exact AllReadyH.nil
        exact AllReadyH.nil
       exact AllReadyH.nil
      exact AllReadyH.nil
     exact AllReadyH.nil
    exact AllReadyH.nil
   exact AllReadyH.nil
  ·
   obtain rfl : k = l.length := by omega
   have hmk := fun w => run_make_ints n (by omega) w
   have hk1 : ¬ (l.length : Int) < (l.length : Int) := by omega
   obtain ⟨W, hW⟩ : ∃ W : World, W = wr := ⟨_, rfl⟩
   rw [← hW] at HS HB
   go_wp2
   rw [← hW]
   clear hmk hk1 hW
   obtain ⟨M, hM⟩ : ∃ M, M = W.heap.size := ⟨_, rfl⟩
   have HM := hid hM
   have hb0 : Blk (W.alloc (.cells (ints (List.replicate n 0)).toArray 3)) W.heap.size 3 (ints (fillM n 0)) := by rw [fillM_zero]; exact Blk.new _ _ _
   have hw0 : Below W.heap.size W (W.alloc (.cells (ints (List.replicate n 0)).toArray 3)) := bel_new _ _
   clear hM
   go_loopw [55] (fun i wr => ∃ k : Nat, k ≤ n ∧ i = .int .i64 k ∧ Blk wr W.heap.size 3 (ints (fillM n k)) ∧ Below W.heap.size W wr) (fun i _ => n - (intOf i).toNat)
   case atStart => exact ⟨0, Nat.zero_le _, rfl, hb0, hw0⟩
   case round =>
    obtain ⟨k, hk, rfl, hb, hw⟩ := hrel
    clear hb0 hw0
    by_cases hlt : k < n
    ·
     have c1 : wr.cell? ⟨W.heap.size, k, none⟩ = some (.int .i64 ((fillM n k).getD k 0)) := by rw [hb.cell, ints_at _ _ (by rw [len_fillM]; exact hlt)]
     have f1 := hb.frozen k
     generalize (fillM n k).getD k 0 = x at c1
     go_wp2
     go_roundw
     case rel => exact ⟨k + 1, by omega, by go_num, by rw [← fillM_set, ← ints_set]; exact hb.put _ _, hw.setCell (Nat.le_refl _) _⟩
     case measure => simp [intOf]; omega
    ·
     obtain rfl : n = k := by omega
     have hk1 : ¬ (n : Int) < (n : Int) := by omega
     obtain ⟨W2, hW2⟩ : ∃ W2 : World, W2 = wr := ⟨_, rfl⟩
     rw [← hW2] at hb hw
     have hlt2 := hb.lt
     have HQ0 : Hid (Qu (W2.alloc (.cells #[.int .i64 v] 3)) W2.heap.size (.slice (some ⟨W2.heap.size, 0, none⟩) 1 1) [v]) := hid (Qu.new _ _)
     have HR0 : Hid (Blk (W2.alloc (.cells #[.int .i64 v] 3)) W.heap.size 3 (ints (List.replicate n (-1))) ∧ Below W.heap.size W (W2.alloc (.cells #[.int .i64 v] 3)) ∧ W.heap.size < W2.heap.size) := hid ⟨by rw [← fillM_all]; exact hb.alloc _, Bl.new hw _, hlt2⟩
     clear hb hw hlt2
     go_wp2
     rw [← hW2]
     clear hk1 hW2
     go_loopg [12] n (LRel n (uv l) v W W.heap.size)
     case atStart => exact ⟨List.replicate n (-1), [v], 0, _, HQ0.out, HR0.out.2.2, Nat.zero_le _, by omega, Bf.start HV.out, HR0.out.1, HR0.out.2.1⟩
     case round =>
      clear HQ0 HR0
      obtain ⟨lead, os, h, b, hq, hMb, hh, hgk, hB, hL, hbel⟩ := hrel
      by_cases hlt : h < os.length
      ·
       obtain ⟨x, hx⟩ : ∃ x, os[h]? = some x := ⟨_, List.getElem?_eq_getElem hlt⟩
       have hdrop : os.drop h = x :: os.drop (h + 1) := by
        obtain ⟨h', e⟩ := List.getElem?_eq_some_iff.1 hx
        rw [List.drop_eq_getElem_cons h', e]
       obtain ⟨o, c1, rfl, q1, q2, q3, q4⟩ := hq
       have hq' : Qu wr b (.slice (some ⟨b, o, none⟩) (os.drop h).length c1) (os.drop h) := ⟨o, c1, rfl, q1, q2, q3, q4⟩
       have HQ := hid hq'
       have d0 : wr.cell? ⟨b, o, none⟩ = some (.int .i64 x) := by
        have := q4 0 (.int .i64 x) (by rw [hdrop]; rfl)
        rwa [Nat.add_zero] at this
       have hxr : InR n x := hB.2.2.1 x (List.mem_of_getElem? hx)
       have hxr1 := hxr.1
       have hxr2 := hxr.2
       have hst := (HS.out.2.2.1 x.toNat (by omega)).1
       have hsl := Sl.of_own hst
       obtain ⟨A', c', hsv, hnc', hcm', hll', hx'⟩ := hsl
       have lst : (starK (uv l) (x.toNat : Int) l.length) = starK (uv l) x (uv l).length := by
        rw [show ((x.toNat : Nat) : Int) = x by omega]; simp [uv]
       simp only [lst] at hsv hx' hll' hst
       have d1 : wr.cell? ⟨w.heap.size, x.toNat, none⟩ = some (.slice A' (starK (uv l) x (uv l).length).length c') := by
        have e1 := (hbel.cell (p := ⟨w.heap.size, x.toNat, none⟩) HS.out.1.lt)
        rw [e1, HS.out.1.cell, svs_at n sv (by omega), hsv]
       have hslen : (starK (uv l) x (uv l).length).length ≤ 1024 := by
        have := starK_len (uv l) x (uv l).length
        have h3 : (uv l).length = l.length := by simp [uv]
        omega
       obtain ⟨sn, hsn⟩ : ∃ sn, sn = (starK (uv l) x (uv l).length).length := ⟨_, rfl⟩
       rw [← hsn] at d1 hslen
       obtain ⟨qn, hqn⟩ : ∃ qn, qn = (os.drop h).length := ⟨_, rfl⟩
       have hqn0 : 0 < qn := by rw [hqn, hdrop]; simp
       have hqn1 : (0 : Int) < (qn : Int) := by omega
       have HSN := hid hsn
       have HX' := hid hx'
       have HB1 := hid (And.intro hMb (And.intro hB (And.intro hL (And.intro hbel (And.intro hx (And.intro hh hgk))))))
       have HQN := hid hqn
       rw [← hqn] at HQ ⊢
       clear q1 q2 q3 q4 hq' hdrop hst hsv hnc' hcm' hll' hx' lst hsn hMb hB hL hbel hx hgk hqn
       go_wp2
       go_loopw [12, 77] (LIn n (uv l) v W W.heap.size h x) (fun _ i _ => sn - (intOf i).toNat)
       case atStart => exact ⟨lead, os, b, 0, rfl, Nat.zero_le _, HQ.out, HB1.out.1, HB1.out.2.2.2.2.1, HB1.out.2.1, HB1.out.2.2.1, HB1.out.2.2.2.1⟩
       case round =>
        clear HQ
        obtain ⟨lead, os, b, k, rfl, hk, hq, hMb, hx, hB, hL, hbel⟩ := hrel
        obtain ⟨o2, q2, rfl, hq1, hq2, hq3, hq4⟩ := hq
        have hqq : Qu wr b (.slice (some ⟨b, o2, none⟩) (os.drop h).length q2) (os.drop h) := ⟨o2, q2, rfl, hq1, hq2, hq3, hq4⟩
        have hol := (List.getElem?_eq_some_iff.1 hx).1
        have hon := hB.len
        obtain ⟨qm, hqm⟩ : ∃ qm, qm = (os.drop h).length := ⟨_, rfl⟩
        have hqm0 : 0 < qm := by rw [hqm, List.length_drop]; omega
        have hqm2 : qm ≤ q2 := by rw [hqm]; exact hq1
        have hqm3 : qm ≤ 1024 := by rw [hqm, List.length_drop]; omega
        have hqm4 : (qm : Int) ≤ (q2 : Int) := by omega
        have hqm5 : (1 : Int) ≤ (qm : Int) := by omega
        have HQM := hid hqm
        rw [← hqm] at hqq
        rw [← hqm]
        have HQ := hid hqq
        have hq2' : q2 ≤ 9223372036854775807 := by unfold maxLen at hq2; omega
        clear hq1 hq2 hq3 hq4 hqq hqm
        by_cases hlt : k < sn
        ·
         have hkl : k < (starK (uv l) x (uv l).length).length := by rw [← HSN.out]; exact hlt
         have hki : (k : Int) < (sn : Int) := by omega
         obtain ⟨b', o', rfl, hb', hc'⟩ := HX'.out (by omega)
         have d2 := (hbel.cell (p := ⟨b', o' + k, none⟩) hb').trans (hc' k _ (ints_of _ k hkl))
         have htk := List.take_succ_eq_append_getElem hkl
         have hnd := starK_nodup (uv l) x (uv l).length
         have hnot : (starK (uv l) x (uv l).length)[k] ∉ (starK (uv l) x (uv l).length).take k := fun h => by
          rw [← List.take_append_drop k (starK (uv l) x (uv l).length), List.nodup_append] at hnd
          exact hnd.2.2 _ h _ (by rw [List.drop_eq_getElem_cons hkl]; exact List.mem_cons_self) rfl
         have hmem : (starK (uv l) x (uv l).length)[k] ∈ starK (uv l) x (uv l).length := List.getElem_mem _
         generalize (starK (uv l) x (uv l).length)[k] = st at d2 htk hnot hmem
         obtain ⟨⟨ex, ey⟩, he, hex⟩ := starK_mem.1 hmem
         have hsl : st < l.length := by
          have := (List.getElem?_eq_some_iff.1 he).1
          simpa [uv] using this
         have he2 := uv_at hsl
         rw [he] at he2
         injection he2 with he2
         injection he2 with he2 he3
         obtain ⟨bl, ol, rfl, hbl, hcl⟩ := HX.out (by omega)
         obtain ⟨q0, q1, q3⟩ := eds_cell hcl hsl
         have hlw := HB.out.size
         have r0 := ((hbel.cell (p := ⟨bl, ol + st * 3, none⟩) (Nat.lt_of_lt_of_le hbl hlw)).trans (HB.out.cell (p := ⟨bl, ol + st * 3, none⟩) hbl)).trans q0
         have r1 := ((hbel.cell (p := ⟨bl, ol + st * 3 + 1, none⟩) (Nat.lt_of_lt_of_le hbl hlw)).trans (HB.out.cell (p := ⟨bl, ol + st * 3 + 1, none⟩) hbl)).trans q1
         have r2 := ((hbel.cell (p := ⟨bl, ol + st * 3 + 2, none⟩) (Nat.lt_of_lt_of_le hbl hlw)).trans (HB.out.cell (p := ⟨bl, ol + st * 3 + 2, none⟩) hbl)).trans q3
         rw [← he2] at r0
         rw [← he3] at r1
         generalize l[st].2.2 = et at r2
         have hll := hB.1
         have d3 : wr.cell? ⟨W.heap.size, x.toNat, none⟩ = some (.int .i64 (g lead x)) := by
          rw [hL.cell, ints_at _ _ (by rw [hll]; omega)]; rfl
         obtain ⟨gl, hgl⟩ : ∃ gl, gl = g lead x := ⟨_, rfl⟩
         rw [← hgl] at d3
         have hsti : (st : Int) < (l.length : Int) := by omega
         have HG := hid (And.intro hgl (And.intro htk (And.intro hnot (And.intro he hex))))
         have HR := hid (And.intro hB (And.intro hx hll))
         have hMb' := hid hMb
         clear htk hnd hnot hmem he hex he2 he3 hcl q0 q1 q3 hgl hB hx hll hc' hkl
         by_cases hg : gl = (st : Int)
         ·
          have t0 : ((st : Int) != gl) = false := by simp [hg]
          have HGS := hid hg
          clear hg r0 r1 r2
          go_wp2
          go_roundw
          case rel =>
           obtain ⟨h1, h2, h3, h4, h5⟩ := HG.out
           refine ⟨lead, os, b, k + 1, by go_num, by rw [← HSN.out]; omega, HQ.out, hMb'.out, HR.out.2.1, ?_, hL, hbel⟩
           rw [h2]
           exact HR.out.1.skip HR.out.2.1 h4 (by rw [← h1]; exact HGS.out)
          case measure => simp [intOf]; omega
         ·
          have t0 : ((st : Int) != gl) = true := by simp; omega
          have HGS := hid hg
          obtain ⟨y, hy⟩ : ∃ y, oth (ex, ey) x = y := ⟨_, rfl⟩
          have HY := hid hy
          have hyr : InR n y := by rw [← hy]; exact oth_in (HF.out.1 _ (List.mem_of_getElem? HG.out.2.2.2.1)) x
          obtain ⟨y0, y1⟩ := hyr
          have HL := hid hL
          have HBL := hid hbel
          clear hg hy hL hbel
          go_wp2_with fail
          refine (other_is HY.out _).mono ?_; rintro e w2 ⟨rfl, bb⟩
          have HQ2 := hid (HQ.out.call bb)
          have HL2 := hid (HL.out.below bb HL.out.lt)
          have HBL2 := hid (HBL.out.trans (bb.mono HBL.out.size))
          have p0 : w2.cell? ⟨W.heap.size, y.toNat, none⟩ = some (.int .i64 (g lead y)) := by
           rw [HL2.out.cell, ints_at _ _ (by rw [HR.out.2.2]; omega)]; rfl
          have p1 : w2.frozen? ⟨W.heap.size, y.toNat, none⟩ = false := HL2.out.frozen _
          have HQ3 : Hid (Qu (w2.setCell ⟨W.heap.size, y.toNat, none⟩ (.int .i64 (st : Int))) b (.slice (some ⟨b, o2, none⟩) qm q2) (os.drop h)) := hid (HQ2.out.far (p := ⟨W.heap.size, y.toNat, none⟩) (by have := hMb'.out; show b ≠ W.heap.size; omega) _)
          have HH3 : Hid ((w2.setCell ⟨W.heap.size, y.toNat, none⟩ (.int .i64 (st : Int))).heap.size = w2.heap.size) := hid (by simp [World.setCell])
          have HL3 := hid (HL2.out.put y.toNat (.int .i64 (st : Int)))
          have HBL3 := hid (HBL2.out.setCell (p := ⟨W.heap.size, y.toNat, none⟩) (Nat.le_refl _) (.int .i64 (st : Int)))
          have HQN2 : Hid ((os.drop h).length ≤ 100000) := hid (by rw [← HQM.out]; omega)
          generalize g lead y = gy at p0
          clear bb r0 r1 r2 d2 d3
          go_wp2_with (at_builtin; go_loud (refine wl_qapp rfl _ _ rfl rfl HQ3.out rfl HQN2.out HH3.out ?_))
          intro b2 v2 w4 hq4 hb2 hg4
          have HQ4 := hid hq4
          have HG4 := hid (And.intro hb2 hg4)
          clear hq4 hb2 hg4 p0 p1
          go_wp2
          go_roundw
          case rel =>
           obtain ⟨h1, h2, h3, h4, h5⟩ := HG.out
           have hMb := hMb'.out
           have hs3 : w2.heap.size = (w2.setCell ⟨W.heap.size, y.toNat, none⟩ (.int .i64 (st : Int))).heap.size := by simp [World.setCell]
           have hlt3 := HQ3.out.lt
           have hol2 : h ≤ os.length := by have := (List.getElem?_eq_some_iff.1 HR.out.2.1).1; omega
           refine ⟨lead.set y.toNat (st : Int), os ++ [y], b2, k + 1, by go_num, by rw [← HSN.out]; omega, ?_, ?_, ?_, ?_, ?_, ?_⟩
           · rw [List.drop_append_of_le_length hol2]; exact HQ4.out
           ·
            rcases HG4.out.1 with e | e
            · rw [e]; exact hMb
            · have := HL3.out.lt; omega
           · rw [List.getElem?_append_left (List.getElem?_eq_some_iff.1 HR.out.2.1).1]; exact HR.out.2.1
           ·
            rw [h2, ← HY.out]
            exact HR.out.1.new HF.out HR.out.2.1 h4 h5 h3 (by rw [← h1]; exact HGS.out)
           ·
            have := HL3.out
            rw [ints_set] at this
            exact (HG4.out.2.block W.heap.size this.lt (fun e => by injection e with e; omega)).trans this
           · refine HBL3.out.trans ⟨HG4.out.2.os, HG4.out.2.tape, HG4.out.2.output, HG4.out.2.size, fun i hi => HG4.out.2.block i (by have := HL3.out.lt; omega) (fun e => by injection e with e; omega)⟩
          case measure => simp [intOf]; omega
        ·
         obtain rfl : k = sn := by have := HSN.out; omega
         have hki : ¬ (k : Int) < (k : Int) := by omega
         have HR := hid (And.intro hB (And.intro hx (And.intro hMb (And.intro hL hbel))))
         have hgk : h < n := by omega
         have HGK := hid hgk
         have hdrop : os.drop h = x :: os.drop (h + 1) := by
          obtain ⟨h', e⟩ := List.getElem?_eq_some_iff.1 hx
          rw [List.drop_eq_getElem_cons h', e]
         have HD := hid hdrop
         clear hB hx hMb hL hbel hgk hdrop
         by_cases hc1 : q2 = 1
         ·
          subst hc1
          go_wp2
          go_roundg (n - (h + 1))
          case measure =>
           have h1 := HB1.out.2.2.2.2.2.2
           have h2 := HGK.out
           omega
          case rel =>
           have h3 := HQ.out
           rw [HD.out] at h3
           have h4 := h3.pop _ (.inl ⟨rfl, rfl⟩)
           have h5 : (os.drop (h + 1)).length = qm - 1 := by have := HQM.out; rw [HD.out] at this; simp at this ⊢; omega
           rw [h5] at h4
           (first | (rw [show qm - 1 = 0 by omega] at h4; refine ⟨lead, os, h + 1, b, h4, HR.out.2.2.1, by omega, rfl, ?_, HR.out.2.2.2.1, HR.out.2.2.2.2⟩) | refine ⟨lead, os, h + 1, b, h4, HR.out.2.2.1, by omega, rfl, ?_, HR.out.2.2.2.1, HR.out.2.2.2.2⟩)
           ·
            refine Bf.next HR.out.2.1 ?_
            have h6 := HR.out.1
            rwa [List.take_of_length_le (by rw [← HSN.out]; exact Nat.le_refl _)] at h6
         ·
          have hc2 : 2 ≤ q2 := by omega
          have hc3 : (2 : Int) ≤ (q2 : Int) := by omega
          go_wp2
          go_roundg (n - (h + 1))
          case measure =>
           have h1 := HB1.out.2.2.2.2.2.2
           have h2 := HGK.out
           omega
          case rel =>
           have h3 := HQ.out
           rw [HD.out] at h3
           have h4 := h3.pop _ (.inr ⟨hc2, rfl⟩)
           have h5 : (os.drop (h + 1)).length = qm - 1 := by have := HQM.out; rw [HD.out] at this; simp at this ⊢; omega
           rw [h5] at h4
           (first | (rw [show qm - 1 = 0 by omega] at h4; refine ⟨lead, os, h + 1, b, h4, HR.out.2.2.1, by omega, rfl, ?_, HR.out.2.2.2.1, HR.out.2.2.2.2⟩) | refine ⟨lead, os, h + 1, b, h4, HR.out.2.2.1, by omega, rfl, ?_, HR.out.2.2.2.1, HR.out.2.2.2.2⟩)
           ·
            refine Bf.next HR.out.2.1 ?_
            have h6 := HR.out.1
            rwa [List.take_of_length_le (by rw [← HSN.out]; exact Nat.le_refl _)] at h6
      ·
       obtain rfl : h = os.length := by omega
       obtain ⟨o, c1, rfl, q1, q2, q3, q4⟩ := hq
       have hz : (os.drop os.length).length = 0 := by simp
       rw [hz]
       have HR := hid (And.intro hB (And.intro hL hbel))
       clear q1 q2 q3 q4 hB hL hbel hz
       go_wp2
       go_ret
       exact ⟨_, lead, rfl, HR.out.1.done HF.out.1 HV.out (Nat.le_refl _), HR.out.2.1.sl HR.out.2.1.lt (Nat.le_refl _) (by unfold maxLen; omega) (by rw [len_ints, HR.out.1.1]; omega), HB.out.trans (HR.out.2.2.mono HB.out.size)⟩
theorem Teds : SlT 26 35 (.agg #[.int .i64 0, .int .i64 0, .int .i64 0]) 3 24 := SlT.mk Tryz.underlying26 (by kernel_rfl) rfl (by decide) (by decide)
section
variable {ops : Array Oper} {rest : List Oper} {o : Oper} {a : Act} {Q : Exit → Act → World → Prop} {w : World}
theorem wl_appG (hw : Region.wanted o (yielded ops a.tmps) = true) (s x : Operand) {t e : TypeId} {z : Value} {sz by_ : Nat} (hT : SlT t e z sz by_) (hop : o.op = .call { callee := .builtin .append, args := #[s, x], argTypes := #[t, t] })
  {base : Nat} {v : Value} {n : Nat} {xs : List Value} (hs : a.eval s = v) (hown : w.ownsRow base e sz v n xs) {b : Nat} {e' : TypeId} {news : List Value} (hx : a.eval x = .slice (some ⟨b, 0, none⟩) 1 1) (hblk : Blk w b e' news)
  (hl : news.length = sz) (h1 : ∀ u ∈ news, u.oneCell' = true) (hb : (n + 1) * by_ ≤ 140737488355328) (hbase : base ≤ w.heap.size)
  (h : ∀ v' w', w'.ownsRow base e sz v' (n + 1) (xs ++ news) → GGrw w w' v v' → (∃ g cap, v' = .slice (some ⟨g, 0, none⟩) (n + 1) cap) → wpList Tryz.prog ops Q rest (a.put o.dst v') w') : wpList Tryz.prog ops Q (o :: rest) a w := by
 refine BigFrame.wpList_want hw fun K hK => ?_
 obtain ⟨hu, ⟨i, hi, hz, hsz, hby⟩, hzs, h0, h0b⟩ := hT
 have h63 : n + 1 ≤ maxLen := by
  have : n + 1 ≤ (n + 1) * by_ := Nat.le_mul_of_pos_right _ h0b
  unfold maxLen; omega
 refine wp_append_lies w s x t hop base e i z sz by_ hu hi hz hsz hby hzs h0 v n xs hs hown ⟨b, 0, none⟩ 1 1 news hx (by omega) (fun j u hu => ?_) h1 (by omega) h63 hb hbase _ rfl ?_
 · rw [Addr.add_lit, Nat.zero_add, hblk.cell]; exact hu
 ·
  intro g cap w' h2 h3 h4 h5
  refine hK _ _ (h _ w' h2 ⟨h3, ?_⟩ ⟨g, cap, rfl⟩)
  rcases h4 with h4 | h4
  · exact .inl (by rw [h4]; rfl)
  ·
   refine .inr fun g' hg => ?_
   have : g = g' := by simpa [Value.ownBlock] using hg
   omega
end
theorem cn_step {n : Nat} {l : List PE} (hl : MayL n l) {i : Nat} {e : PE} (hi : l[i]? = some e) {x v : Int} (hx : e.1 = x ∨ e.2 = x) (hc : Cn n l x v) : Cn n l (oth e x) v := by
 have := (oth_eq (g (partOf n l)) hx).1 (Cn.edge hl (List.mem_of_getElem? hi))
 unfold Cn at *
 rw [← this, hc]
def PtPost (n : Nat) (l : List Ed) (u v : Int) (w : World) (e : Ending) (w' : World) : Prop :=
 ∃ v' p, e = .returned (.tuple #[v', .int .i64 0]) ∧ Sm (uv l) u p v ∧ Sl w' w'.heap.size 3 v' p.length (eds (edsAt l p)) ∧ Below w.heap.size w w'
theorem path_none {n : Nat} (hn : n ≤ 1024) {v0 : Value} {m : Nat} {l : List Ed} {w : World} (hs : Sl w w.heap.size 3 v0 m (eds l)) (hf : Fst n (uv l)) {u v : Int} (hu : InR n u) (hv : InR n v) (hc : ¬ Cn n (uv l) u v) :
  Calls Tryz.prog 81 #[.int .i64 n, v0, .int .i64 u, .int .i64 v] w fun e w' => e = .returned (.tuple #[.slice none 0 0, .int .i64 3]) ∧ Below w.heap.size w w' := by
 have HS := hid hs
 have HF := hid hf
 have HU := hid hu
 have HV := hid hv
 have HPU := hid ((placeB_iff n u).2 hu)
 have HPV := hid ((placeB_iff n v).2 hv)
 obtain ⟨u0, u1⟩ := hu
 have hne : u ≠ v := fun h => hc (by rw [h]; rfl)
 have t0 : (u != v) = true := by simp [hne]
 have HC := hid (And.intro hc hne)
 clear hs hf hv hc hne
 go_enter Tryz.func81, Tryz.ntmps81
 go_wp2_with fail
 refine (gright_yes hn HS.out HF.out).mono ?_; rintro e w1 ⟨rfl, b1⟩
 have HB1 := hid b1
 have HS1 := hid (HS.out.call b1)
 clear b1
 go_wp2_with fail
 refine (vertex_is true HPU.out _).mono ?_; rintro e w' ⟨rfl, rfl⟩
 go_wp2_with fail
 refine (vertex_is true HPV.out _).mono ?_; rintro e w' ⟨rfl, rfl⟩
 go_wp2_with fail
 refine (leads_any hn HS1.out HF.out HV.out).mono ?_; rintro e w2 ⟨v', lead, rfl, hld, hsl, b2⟩
 have HB2 := hid (Bl.call HB1.out b2)
 have hgu : g lead u = -1 := by
  obtain ⟨_, d, hd⟩ := hld
  rcases hd u HU.out HC.out.2 with h | h
  · exact absurd h.1 HC.out.1
  · exact h.2
 have hln := hld.1
 obtain ⟨A, c, rfl, hnc, hcm, hll, hx⟩ := hsl
 obtain ⟨bk, o, rfl, hlt, hcell⟩ := hx (by omega)
 have c0 : w2.cell? ⟨bk, o + u.toNat, none⟩ = some (.int .i64 (-1)) := by
  have := ints_cell hcell (k := u.toNat) (by omega)
  rw [← hgu]; exact this
 clear hld hgu hx hcell b2
 go_wp2_with fail
 go_loopw [11, 12] (fun p x wr => p = .slice none 0 0 ∧ x = .int .i64 u ∧ wr = w2) (fun _ _ _ => 0)
 case atStart => exact ⟨rfl, rfl, rfl⟩
 case round =>
  obtain ⟨rfl, rfl, rfl⟩ := hrel
  go_wp2
  go_ret2
  exact ⟨rfl, HB2.out⟩
set_option maxHeartbeats 2000000 in
theorem path_ok {n : Nat} (hn : n ≤ 1024) {v0 : Value} {m : Nat} {l : List Ed} {w : World} (hs : Sl w w.heap.size 3 v0 m (eds l)) (hf : Fst n (uv l)) {u v : Int} (hu : InR n u) (hv : InR n v) (hc : Cn n (uv l) u v) :
  Calls Tryz.prog 81 #[.int .i64 n, v0, .int .i64 u, .int .i64 v] w (PtPost n l u v w) := by
 have hl : l.length = m := by have := hs.len; rw [len_eds] at this; omega
 subst hl
 have HS := hid hs
 have HF := hid hf
 have HU := hid hu
 have HV := hid hv
 have HC := hid hc
 have HPU := hid ((placeB_iff n u).2 hu)
 have HPV := hid ((placeB_iff n v).2 hv)
 have hle : l.length ≤ n := by
  have := hf.2
  have h3 : (uv l).length = l.length := by simp [uv]
  omega
 clear hs hf hu hv hc
 go_enter Tryz.func81, Tryz.ntmps81
 go_wp2_with fail
 refine (gright_yes hn HS.out HF.out).mono ?_; rintro e w1 ⟨rfl, b1⟩
 have HB1 := hid b1
 have HS1 := hid (HS.out.call b1)
 clear b1
 go_wp2_with fail
 refine (vertex_is true HPU.out _).mono ?_; rintro e w' ⟨rfl, rfl⟩
 go_wp2_with fail
 refine (vertex_is true HPV.out _).mono ?_; rintro e w' ⟨rfl, rfl⟩
 go_wp2_with fail
 refine (leads_any hn HS1.out HF.out HV.out).mono ?_; rintro e w2 ⟨v', lead, rfl, hld, hsl, b2⟩
 have HB2 := hid (Bl.call HB1.out b2)
 have HS2 := hid (HS1.out.call b2)
 obtain ⟨hln, d, hd⟩ := hld
 have HD := hid hd
 have HL := hid hsl
 clear hd hsl b2
 obtain ⟨A, c, hv0, hnc, hcm, hll, hx⟩ := HS2.out
 subst hv0
 obtain ⟨A2, c2, hv2, hnc2, hcm2, hll2, hx2⟩ := HL.out
 subst hv2
 have HX := hid hx
 have HX2 := hid hx2
 have hcm' : (l.length : Int) ≤ 1024 := by omega
 clear hx hx2 hll hll2
 go_wp2_with fail
 go_loopw [11, 12] (fun pv xv wr => ∃ (p : List Nat) (x : Int), xv = .int .i64 x ∧ Hid (InR n x) ∧ Hid (Cn n (uv l) x v) ∧ Hid (Dn (uv l) d u p x) ∧ Hid (wr.ownsRow w2.heap.size 35 3 pv p.length (eds (edsAt l p))) ∧ Hid (Below w2.heap.size w2 wr)) (fun _ x _ => d (intOf x))
 case atStart => exact ⟨[], u, rfl, HU, HC, rfl, World.ownsRow_nil _ _ _ _, hid (Below.refl _ _)⟩
 case round =>
  obtain ⟨p, x, rfl, HXR, HCX, HDN, HO, HB⟩ := hrel
  obtain ⟨hx0, hx1⟩ := HXR.out
  by_cases hxv : x = v
  ·
   subst hxv
   have t0 : (x != x) = false := by simp
   go_wp2
   go_ret2
   exact ⟨_, p, rfl, HDN.out.sm.1, Sl.of_own HO.out, HB2.out.trans (HB.out.mono HB2.out.size)⟩
  ·
   have t0 : (x != v) = true := by simp [hxv]
   obtain ⟨i, e, hgi, hei, hex, hdl⟩ : ∃ (i : Nat) (e : PE), g lead x = (i : Int) ∧ (uv l)[i]? = some e ∧ (e.1 = x ∨ e.2 = x) ∧ d (oth e x) < d x := by
    rcases HD.out x HXR.out hxv with h | h
    · exact h.2
    · exact absurd HCX.out h.1
   obtain ⟨bk, o, rfl, hlt, hcell⟩ := HX2.out (by omega)
   have c0 : wr.cell? ⟨bk, o + x.toNat, none⟩ = some (.int .i64 (i : Int)) := by
    have := ints_cell hcell (k := x.toNat) (by omega)
    rw [HB.out.cell (p := ⟨bk, o + x.toNat, none⟩) hlt, ← hgi]; exact this
   have hil : i < l.length := by
    have := (List.getElem?_eq_some_iff.1 hei).1
    simpa [uv] using this
   have hii : (i : Int) < (l.length : Int) := by omega
   have hei2 := uv_at hil
   rw [hei] at hei2
   injection hei2 with hei2
   obtain ⟨bl, ol, rfl, hbl, hcl⟩ := HX.out (by omega)
   obtain ⟨q0, q1, q2⟩ := eds_cell hcl hil
   have r0 := (HB.out.cell (p := ⟨bl, ol + i * 3, none⟩) hbl).trans q0
   have r1 := (HB.out.cell (p := ⟨bl, ol + i * 3 + 1, none⟩) hbl).trans q1
   have r2 := (HB.out.cell (p := ⟨bl, ol + i * 3 + 2, none⟩) hbl).trans q2
   have HED : Hid (edsAt l (p ++ [i]) = edsAt l p ++ [l[i]]) := hid (edsAt_snoc l p (List.getElem?_eq_getElem hil))
   have HPL : Hid (p.length ≤ 1024) := hid (by
    have := HDN.out.sm.1
    have := this.short HF.out.1 HU.out
    omega)
   generalize l[i] = ed at r0 r1 r2 HED hei2
   obtain ⟨ex, ey, et⟩ := ed
   dsimp only at r0 r1 r2 hei2
   subst hei2
   obtain ⟨y, hy⟩ : ∃ y, oth (ex, ey) x = y := ⟨_, rfl⟩
   have HY := hid hy
   have HE := hid (And.intro hei (And.intro hex hdl))
   have HSZ := hid HB.out.size
   clear hgi hei hex hdl hcell hcl q0 q1 q2 hy hxv
   obtain ⟨w5, hw5⟩ : ∃ w5, w5 = (wr.alloc (.cells #[.int .i64 ex, .int .i64 ey, .int .i64 et] 35)).alloc (.cells #[.int .i64 ex, .int .i64 ey, .int .i64 et] 35) := ⟨_, rfl⟩
   have hb5 : Below wr.heap.size wr w5 := by rw [hw5]; exact Bl.new (bel_new _ _) _
   have HO5 := hid (own_below HO.out hb5)
   have HB5 := hid (HB.out.trans (hb5.mono HB.out.size))
   have HK5 : Hid (Blk w5 wr.heap.size 35 [.int .i64 ex, .int .i64 ey, .int .i64 et]) := hid (by rw [hw5]; exact (Blk.new wr _ [.int .i64 ex, .int .i64 ey, .int .i64 et]).alloc _)
   have HN5 : Hid (Blk w5 (wr.heap.size + 1) 35 [.int .i64 ex, .int .i64 ey, .int .i64 et]) := hid (by
    rw [hw5]
    have := Blk.new (wr.alloc (.cells #[.int .i64 ex, .int .i64 ey, .int .i64 et] 35)) 35 [.int .i64 ex, .int .i64 ey, .int .i64 et]
    simpa using this)
   have HNE : Hid (some wr.heap.size ≠ u11.ownBlock) := hid (fun e => by have := (HO.out.lt _ e.symm).2; omega)
   have HW5 := hid hw5
   clear hw5 hb5
   go_wp2_with (at_builtin; rw [← HW5.out]; (refine wl_appG rfl _ _ Teds rfl rfl HO5.out rfl HN5.out rfl (eds_one [(ex, ey, et)]) (by have := HPL.out; omega) HB5.out.size ?_))
   intro v3 w3 hO3 hG3 gb gc hv3
   subst hv3
   have HO3 := hid hO3
   have HB3 := hid (HB5.out.trans (hG3.below HO5.out HB5.out.size))
   have hK3 := hG3.blk HK5.out HNE.out
   have k0 := hK3.cell 0
   have k1 := hK3.cell 1
   have k2 := hK3.cell 2
   clear hO3 hG3 hK3 r0 r1 r2 c0
   go_wp2_with fail
   refine (other_is HY.out _).mono ?_; rintro e w6 ⟨rfl, b6⟩
   have HB6 := hid (HB3.out.trans (b6.mono HB3.out.size))
   have HO6 := hid (own_below HO3.out b6)
   clear b6 k0 k1 k2
   go_wp2
   go_roundw
   case rel =>
    obtain ⟨h1, h2, h3⟩ := HE.out
    have hyr : InR n y := by rw [← HY.out]; exact oth_in (HF.out.1 _ (List.mem_of_getElem? h1)) x
    refine ⟨p ++ [i], y, rfl, hyr, ?_, ?_, ?_, HB6⟩
    · rw [← HY.out]; exact cn_step HF.out.1 h1 h2 HCX.out
    · rw [← HY.out]; exact HDN.out.snoc h1 h2 h3
    · rw [HED.out, ← eds_app, List.length_append]; exact HO6
   case measure =>
    have h3 := HE.out.2.2
    rw [HY.out] at h3
    simpa [intOf] using h3
theorem gtree_any {n : Nat} (hn : n ≤ 1024) {v0 : Value} {m : Nat} {l : List Ed} {w : World} (hs : Sl w w.heap.size 3 v0 m (eds l)) (hf : Fst n (uv l)) (v : Int) :
  Calls Tryz.prog 46 #[.int .i64 n, v0, .int .i64 v] w fun e w' => ∃ v', e = .returned v' ∧ Sl w' w'.heap.size 1 v' (classL (partOf n (uv l)) v).length (ints (classL (partOf n (uv l)) v)) ∧ Below w.heap.size w w' := by
 have HS := hid hs
 have HF := hid hf
 have HM := hid (fst_may hf)
 clear hs hf
 go_enter Tryz.func46, Tryz.ntmps46
 go_wp2_with fail
 refine (gright_yes hn HS.out HF.out).mono ?_; rintro e w1 ⟨rfl, b1⟩
 have HB1 := hid b1
 have HS1 := hid (HS.out.call b1)
 clear b1
 go_wp2_with fail
 refine (of_ok hn HS1.out (Nat.le_refl _) HM.out).mono ?_; rintro e w2 ⟨v2, rfl, hS, b2⟩
 have HB2 := hid (Bl.call HB1.out b2)
 have HS2 := hid hS
 clear b2 hS
 go_wp2_with fail
 refine (class_any _ _ _ _ _ _ HS2.out (Nat.le_refl _) (by omega)).mono ?_; rintro e w3 ⟨v3, rfl, ho, b3⟩
 have HB3 := hid (Bl.call HB2.out b3)
 have HO3 := hid ho
 clear b3 ho
 go_wp2
 go_ret
 exact ⟨_, rfl, Sl.of_own HO3.out, HB3.out⟩
end Go.Proofs.YtahodfikhocobaaGreatDoor
namespace Go.Proofs.YtahodfikhocobaaGreatDoor
open Go.RowKit
set_option linter.unusedVariables false
set_option linter.unusedSimpArgs false
attribute [local go_sem ↓] Go.wp_at_zero Go.wp_at_succ
def cutA (A : Option Addr) (c lo sz : Nat) : Option Addr := if c = lo then A else A.map (·.add (lo * sz))
theorem Sl.drop {w : World} {B sz n c k : Nat} {A : Option Addr} {xs : List Value} (h : Sl w B sz (.slice A n c) n xs) (hk : k ≤ n) : Sl w B sz (.slice (cutA A c k sz) (n - k) (c - k)) (n - k) (xs.drop (k * sz)) := by
 obtain ⟨A', c', hv, hnc, hcm, hl, hx⟩ := h
 injection hv with e1 e2 e3
 subst e1 e3
 refine ⟨_, _, rfl, by omega, by omega, by rw [List.length_drop, hl, Nat.sub_mul], fun h0 => ?_⟩
 obtain ⟨b, o, rfl, hb, hc⟩ := hx (by omega)
 refine ⟨b, o + k * sz, by unfold cutA; rw [if_neg (by omega)]; simp [Addr.add_lit], hb, fun j u hu => ?_⟩
 rw [List.getElem?_drop] at hu
 rw [Nat.add_assoc]
 exact hc _ u hu
theorem Sl.take {w : World} {B sz n c k : Nat} {A : Option Addr} {xs : List Value} (h : Sl w B sz (.slice A n c) n xs) (hk : k ≤ n) : Sl w B sz (.slice (cutA A c 0 sz) k c) k (xs.take (k * sz)) := by
 obtain ⟨A', c', hv, hnc, hcm, hl, hx⟩ := h
 injection hv with e1 e2 e3
 subst e1 e3
 refine ⟨_, _, rfl, by omega, by omega, by rw [List.length_take, hl]; exact Nat.min_eq_left (Nat.mul_le_mul_right _ hk), fun h0 => ?_⟩
 obtain ⟨b, o, rfl, hb, hc⟩ := hx (by omega)
 refine ⟨b, o, by unfold cutA; rw [if_neg (by omega)]; simp [Addr.add_lit], hb, fun j u hu => ?_⟩
 rw [List.getElem?_take] at hu
 split at hu
 · exact hc _ u hu
 · cases hu
theorem sizeOf_of {t e : TypeId} {z : Value} {sz by_ : Nat} (hT : SlT t e z sz by_) (w : World) : (sizeOf e).run Tryz.prog w = .ok sz w := by
 obtain ⟨hu, ⟨i, hi, hz, hsz, hby⟩, hzs, h0, h0b⟩ := hT
 simp [sizeOf, typeInfo, hi, hsz]
theorem elem_of {t e : TypeId} {z : Value} {sz by_ : Nat} (hT : SlT t e z sz by_) : Tryz.prog.elem t = e := by
 obtain ⟨hu, -⟩ := hT
 simp [Program.elem, hu]
theorem und_of {t e : TypeId} {z : Value} {sz by_ : Nat} (hT : SlT t e z sz by_) : Tryz.prog.underlying t = some (.slice (Tryz.prog.elem t)) := by
 rw [elem_of hT]; exact hT.1
theorem run_take_of {t e : TypeId} {z : Value} {sz by_ : Nat} (hT : SlT t e z sz by_) (A : Option Addr) (n c k : Nat) (hk : k ≤ c) (w : World) :
  (Instr.slice t (.slice A n c) none (some (.int .i64 (k : Int))) none).run Tryz.prog w = .ok (.slice (cutA A c 0 sz) k c) w := by
 rw [run_slice_h (P := Tryz.prog) w t A n c (und_of hT) .i64 (k : Int) (by omega) (by omega), elem_of hT, sizeOf_of hT]
 simp only [Result.andThen_ok, sliced, cutA, Int.toNat_natCast, Nat.sub_zero]
theorem run_drop_of {t e : TypeId} {z : Value} {sz by_ : Nat} (hT : SlT t e z sz by_) (A : Option Addr) (n c k : Nat) (hk : k ≤ n) (w : World) :
  (Instr.slice t (.slice A n c) (some (.int .i64 (k : Int))) none none).run Tryz.prog w = .ok (.slice (cutA A c k sz) (n - k) (c - k)) w := by
 rw [run_slice_l (P := Tryz.prog) w t A n c (und_of hT) .i64 (k : Int) (by omega) (by omega), elem_of hT, sizeOf_of hT]
 simp only [Result.andThen_ok, sliced, cutA, Int.toNat_natCast]
theorem Sl.mid {w : World} {B sz n c lo hi : Nat} {A : Option Addr} {xs : List Value} (h : Sl w B sz (.slice A n c) n xs) (h1 : lo ≤ hi) (h2 : hi ≤ n) : Sl w B sz (.slice (cutA A c lo sz) (hi - lo) (c - lo)) (hi - lo) ((xs.drop (lo * sz)).take ((hi - lo) * sz)) := by
 have hd := h.drop (k := lo) (by omega)
 have ht := hd.take (k := hi - lo) (by omega)
 have hnc : n ≤ c := by
  obtain ⟨A', c', hv, hnc, _⟩ := h
  injection hv with e1 e2 e3
  omega
 have e : cutA (cutA A c lo sz) (c - lo) 0 sz = cutA A c lo sz := by
  unfold cutA
  by_cases e1 : c = lo
  · subst e1; simp
  ·
   rw [if_neg e1, if_neg (by omega)]
   cases A with
   | none => rfl
   | some a =>
    obtain ⟨b, o, q⟩ := a
    cases q <;> simp [Addr.add]
 rw [e] at ht
 exact ht
theorem run_mid_of {t e : TypeId} {z : Value} {sz by_ : Nat} (hT : SlT t e z sz by_) (A : Option Addr) (n c lo hi : Nat) (h1 : lo ≤ hi) (h2 : hi ≤ c) (w : World) :
  (Instr.slice t (.slice A n c) (some (.int .i64 (lo : Int))) (some (.int .i64 (hi : Int))) none).run Tryz.prog w = .ok (.slice (cutA A c lo sz) (hi - lo) (c - lo)) w := by
 rw [run_slice_lh (P := Tryz.prog) w t A n c (und_of hT) .i64 .i64 (lo : Int) (hi : Int) (by omega) (by omega) (by omega), elem_of hT, sizeOf_of hT]
 simp only [Result.andThen_ok, sliced, cutA, Int.toNat_natCast]
theorem Thsh : SlT 24 42 (.agg #[.int .u64 0, .int .u64 0]) 2 16 := SlT.mk Tryz.underlying24 (by kernel_rfl) rfl (by decide) (by decide)
theorem hcs_one (l : List (Nat × Nat)) : ∀ u ∈ hcs l, u.oneCell' = true := by
 intro u hu
 obtain ⟨e, _, h⟩ := List.mem_flatMap.1 hu
 simp at h
 rcases h with rfl | rfl <;> rfl
theorem hcs_drop (l : List (Nat × Nat)) (k : Nat) : (hcs l).drop (k * 2) = hcs (l.drop k) := by
 induction k generalizing l with
 | zero => simp
 | succ k ih =>
  cases l with
  | nil => simp [hcs]
  | cons a l =>
   rw [List.drop_succ_cons, ← ih l, show (k + 1) * 2 = k * 2 + 1 + 1 by omega]
   simp [hcs]
theorem hcs_take (l : List (Nat × Nat)) (k : Nat) : (hcs l).take (k * 2) = hcs (l.take k) := by
 induction k generalizing l with
 | zero => simp [hcs]
 | succ k ih =>
  cases l with
  | nil => simp [hcs]
  | cons a l =>
   rw [List.take_succ_cons, show (k + 1) * 2 = k * 2 + 1 + 1 by omega]
   have := ih l
   simp [hcs] at this ⊢
   exact this
theorem hclone_any (v : Value) (n B : Nat) (p : List (Nat × Nat)) (w : World) (hs : Sl w B 2 v n (hcs p)) (hB : B ≤ w.heap.size) (hr : n ≤ 8796093022208) :
  Calls Tryz.prog 27 #[v] w fun e w' => ∃ v', e = .returned v' ∧ Sl w' w'.heap.size 2 v' n (hcs p) ∧ Below w.heap.size w w' := by
 have hs0 := hid hs
 obtain ⟨A, c, rfl, hnc, hcm, hl, hx⟩ := hs
 have heq := fun w => Lib.run_eql_slice_nil (P := Tryz.prog) w 24 42 A n c 0 0 Tryz.underlying24
 cases A with
 | none =>
  have hn : n = 0 := by
   rcases Nat.eq_zero_or_pos n with h | h
   · exact h
   · obtain ⟨_, _, h', _⟩ := hx h; cases h'
  subst hn
  have hp : p = [] := List.eq_nil_of_length_eq_zero (by have := hl; rw [len_hcs] at this; omega)
  subst hp
  go_enter Tryz.func27, Tryz.ntmps27
  go_wp2
  go_ret
  exact ⟨_, rfl, Sl.none_ _ _ _, Below.refl _ _⟩
 | some ad =>
  clear hx
  go_enter Tryz.func27, Tryz.ntmps27
  go_wp2_with (at_builtin; refine wl_app rfl _ _ Thsh rfl rfl (own_empty w _ _ _ (Nat.le_refl _)) rfl (hs0.out.alloc hB _) (hcs_one _) (by omega) (by simp) ?_)
  intro v' w' hown hbel
  have hsl := Sl.of_own hown
  go_wp2
  go_ret
  exact ⟨_, rfl, by simpa using hsl, ((Below.refl _ _).alloc (Nat.le_refl _) _).trans hbel⟩
def lvl (n : Nat) : Nat := if n ≤ 1 then 2 else if n ≤ 2 then 4 else if n ≤ 4 then 6 else if n ≤ 8 then 8 else 10
theorem lvl_bd (n : Nat) : 1 ≤ lvl n ∧ lvl n ≤ 10 := by unfold lvl; (repeat' split) <;> omega
set_option maxRecDepth 100000 in
theorem tlen_0 (w : World) : Calls Tryz.prog 76 #[.int .u64 0] w fun e w' => e = .returned (.int .i64 0) ∧ w = w' := by
 go_enter Tryz.func76, Tryz.ntmps76
 go_wp2
 go_ret
 exact ⟨ret_int (by decide +kernel), rfl⟩
set_option maxRecDepth 100000 in
theorem tlen_1 (w : World) : Calls Tryz.prog 76 #[.int .u64 1] w fun e w' => e = .returned (.int .i64 1) ∧ w = w' := by
 go_enter Tryz.func76, Tryz.ntmps76
 go_wp2
 go_ret
 exact ⟨ret_int (by decide +kernel), rfl⟩
set_option maxRecDepth 100000 in
theorem tlen_2 (w : World) : Calls Tryz.prog 76 #[.int .u64 2] w fun e w' => e = .returned (.int .i64 2) ∧ w = w' := by
 go_enter Tryz.func76, Tryz.ntmps76
 go_wp2
 go_ret
 exact ⟨ret_int (by decide +kernel), rfl⟩
set_option maxRecDepth 100000 in
theorem tlen_3 (w : World) : Calls Tryz.prog 76 #[.int .u64 3] w fun e w' => e = .returned (.int .i64 2) ∧ w = w' := by
 go_enter Tryz.func76, Tryz.ntmps76
 go_wp2
 go_ret
 exact ⟨ret_int (by decide +kernel), rfl⟩
set_option maxRecDepth 100000 in
theorem tlen_4 (w : World) : Calls Tryz.prog 76 #[.int .u64 4] w fun e w' => e = .returned (.int .i64 3) ∧ w = w' := by
 go_enter Tryz.func76, Tryz.ntmps76
 go_wp2
 go_ret
 exact ⟨ret_int (by decide +kernel), rfl⟩
set_option maxRecDepth 100000 in
theorem tlen_5 (w : World) : Calls Tryz.prog 76 #[.int .u64 5] w fun e w' => e = .returned (.int .i64 3) ∧ w = w' := by
 go_enter Tryz.func76, Tryz.ntmps76
 go_wp2
 go_ret
 exact ⟨ret_int (by decide +kernel), rfl⟩
set_option maxRecDepth 100000 in
theorem tlen_6 (w : World) : Calls Tryz.prog 76 #[.int .u64 6] w fun e w' => e = .returned (.int .i64 3) ∧ w = w' := by
 go_enter Tryz.func76, Tryz.ntmps76
 go_wp2
 go_ret
 exact ⟨ret_int (by decide +kernel), rfl⟩
set_option maxRecDepth 100000 in
theorem tlen_7 (w : World) : Calls Tryz.prog 76 #[.int .u64 7] w fun e w' => e = .returned (.int .i64 3) ∧ w = w' := by
 go_enter Tryz.func76, Tryz.ntmps76
 go_wp2
 go_ret
 exact ⟨ret_int (by decide +kernel), rfl⟩
set_option maxRecDepth 100000 in
theorem tlen_8 (w : World) : Calls Tryz.prog 76 #[.int .u64 8] w fun e w' => e = .returned (.int .i64 4) ∧ w = w' := by
 go_enter Tryz.func76, Tryz.ntmps76
 go_wp2
 go_ret
 exact ⟨ret_int (by decide +kernel), rfl⟩
set_option maxRecDepth 100000 in
theorem tlen_9 (w : World) : Calls Tryz.prog 76 #[.int .u64 9] w fun e w' => e = .returned (.int .i64 4) ∧ w = w' := by
 go_enter Tryz.func76, Tryz.ntmps76
 go_wp2
 go_ret
 exact ⟨ret_int (by decide +kernel), rfl⟩
set_option maxRecDepth 100000 in
theorem tlen_10 (w : World) : Calls Tryz.prog 76 #[.int .u64 10] w fun e w' => e = .returned (.int .i64 4) ∧ w = w' := by
 go_enter Tryz.func76, Tryz.ntmps76
 go_wp2
 go_ret
 exact ⟨ret_int (by decide +kernel), rfl⟩
set_option maxRecDepth 100000 in
theorem tlen_11 (w : World) : Calls Tryz.prog 76 #[.int .u64 11] w fun e w' => e = .returned (.int .i64 4) ∧ w = w' := by
 go_enter Tryz.func76, Tryz.ntmps76
 go_wp2
 go_ret
 exact ⟨ret_int (by decide +kernel), rfl⟩
theorem levels_any {n : Nat} (h1 : 1 ≤ n) (h2 : n ≤ 12) (w : World) : Calls Tryz.prog 50 #[.int .i64 (n : Int)] w fun e w' => e = .returned (.int .i64 (lvl n : Nat)) ∧ w = w' := by
 obtain rfl | rfl | rfl | rfl | rfl | rfl | rfl | rfl | rfl | rfl | rfl | rfl : n = 1 ∨ n = 2 ∨ n = 3 ∨ n = 4 ∨ n = 5 ∨ n = 6 ∨ n = 7 ∨ n = 8 ∨ n = 9 ∨ n = 10 ∨ n = 11 ∨ n = 12 := by omega
 ·
  go_enter Tryz.func50, Tryz.ntmps50
  go_wp2_with fail
  refine (tlen_0 _).mono ?_; rintro e w' ⟨rfl, rfl⟩
  go_wp2
  go_ret
  exact ⟨by rfl, rfl⟩
 ·
  go_enter Tryz.func50, Tryz.ntmps50
  go_wp2_with fail
  refine (tlen_1 _).mono ?_; rintro e w' ⟨rfl, rfl⟩
  go_wp2
  go_ret
  exact ⟨by rfl, rfl⟩
 ·
  go_enter Tryz.func50, Tryz.ntmps50
  go_wp2_with fail
  refine (tlen_2 _).mono ?_; rintro e w' ⟨rfl, rfl⟩
  go_wp2
  go_ret
  exact ⟨by rfl, rfl⟩
 ·
  go_enter Tryz.func50, Tryz.ntmps50
  go_wp2_with fail
  refine (tlen_3 _).mono ?_; rintro e w' ⟨rfl, rfl⟩
  go_wp2
  go_ret
  exact ⟨by rfl, rfl⟩
 ·
  go_enter Tryz.func50, Tryz.ntmps50
  go_wp2_with fail
  refine (tlen_4 _).mono ?_; rintro e w' ⟨rfl, rfl⟩
  go_wp2
  go_ret
  exact ⟨by rfl, rfl⟩
 ·
  go_enter Tryz.func50, Tryz.ntmps50
  go_wp2_with fail
  refine (tlen_5 _).mono ?_; rintro e w' ⟨rfl, rfl⟩
  go_wp2
  go_ret
  exact ⟨by rfl, rfl⟩
 ·
  go_enter Tryz.func50, Tryz.ntmps50
  go_wp2_with fail
  refine (tlen_6 _).mono ?_; rintro e w' ⟨rfl, rfl⟩
  go_wp2
  go_ret
  exact ⟨by rfl, rfl⟩
 ·
  go_enter Tryz.func50, Tryz.ntmps50
  go_wp2_with fail
  refine (tlen_7 _).mono ?_; rintro e w' ⟨rfl, rfl⟩
  go_wp2
  go_ret
  exact ⟨by rfl, rfl⟩
 ·
  go_enter Tryz.func50, Tryz.ntmps50
  go_wp2_with fail
  refine (tlen_8 _).mono ?_; rintro e w' ⟨rfl, rfl⟩
  go_wp2
  go_ret
  exact ⟨by rfl, rfl⟩
 ·
  go_enter Tryz.func50, Tryz.ntmps50
  go_wp2_with fail
  refine (tlen_9 _).mono ?_; rintro e w' ⟨rfl, rfl⟩
  go_wp2
  go_ret
  exact ⟨by rfl, rfl⟩
 ·
  go_enter Tryz.func50, Tryz.ntmps50
  go_wp2_with fail
  refine (tlen_10 _).mono ?_; rintro e w' ⟨rfl, rfl⟩
  go_wp2
  go_ret
  exact ⟨by rfl, rfl⟩
 ·
  go_enter Tryz.func50, Tryz.ntmps50
  go_wp2_with fail
  refine (tlen_11 _).mono ?_; rintro e w' ⟨rfl, rfl⟩
  go_wp2
  go_ret
  exact ⟨by rfl, rfl⟩
/-! ## A graph in memory -/
structure GM (w : World) (vh ve : Value) (hs : List (Nat × Nat)) (es : List (Int × Int × Int)) : Prop where
  sh : Sl w w.heap.size 2 vh hs.length (hcs hs)
  se : Sl w w.heap.size 3 ve es.length (eds es)
theorem GM.call {w a : World} {vh ve : Value} {hs : List (Nat × Nat)} {es : List (Int × Int × Int)} (h : GM w vh ve hs es) (hb : Below w.heap.size w a) : GM a vh ve hs es := ⟨h.sh.call hb, h.se.call hb⟩
theorem GM.cqt {w a : World} {vh ve : Value} {hs : List (Nat × Nat)} {es : List (Int × Int × Int)} (h : GM w vh ve hs es) (hb : Qt w a) : GM a vh ve hs es := h.call hb.bel
theorem GM.new {w : World} {vh ve : Value} {hs : List (Nat × Nat)} {es : List (Int × Int × Int)} (h : GM w vh ve hs es) (o : Obj) : GM (w.alloc o) vh ve hs es := h.call (bel_new _ _)
theorem GM.lit {w : World} {vh ve : Value} {hs : List (Nat × Nat)} {es : List (Int × Int × Int)} (h : GM w vh ve hs es) : ∃ A1 c1 A2 c2, vh = .slice A1 hs.length c1 ∧ ve = .slice A2 es.length c2 := by
 obtain ⟨A1, c1, rfl, _⟩ := h.sh
 obtain ⟨A2, c2, rfl, _⟩ := h.se
 exact ⟨A1, c1, A2, c2, rfl, rfl⟩
structure GP (n L R : Nat) (hs : List (Nat × Nat)) (es : List (Int × Int × Int)) : Prop where
  n1 : 1 ≤ n
  n2 : n ≤ 12
  l1 : 1 ≤ L
  l2 : L ≤ 4
  r1 : 1 ≤ R
  r2 : R ≤ 3
  hl : hs.length = L * R
  hh : ∀ h ∈ hs, h.1 < 2305843009213693951 ∧ h.2 < 2305843009213693951
  gd : Tp.Gd n L es
  el : es.length ≤ 1000
def hz (hs : List (Nat × Nat)) : List (Int × Int) := hs.map fun h => ((h.1 : Int), (h.2 : Int))
theorem hcz_hz (hs : List (Nat × Nat)) : hcz (hz hs) = hcs hs := by unfold hcz hz hcs; rw [List.flatMap_map]
theorem tabr_of {n : Nat} {es : List (Int × Int × Int)} (h : Tp.Tb n es) (hn : n ≤ 1024) : TabR n es := by
 refine ⟨⟨by omega, by omega⟩, fun j hj _ => ⟨?_, ?_⟩⟩
 ·
  have := h.1 _ (List.getElem_mem hj)
  unfold Tp.EOk at this
  unfold EdOk; omega
 ·
  rintro k rfl
  have := List.pairwise_iff_getElem.1 h.2 k (k + 1) (by omega) hj (by omega)
  exact (Tp.lsB_iff _ _).2 this
theorem GP.tab {n L R : Nat} {hs : List (Nat × Nat)} {es : List (Int × Int × Int)} (h : GP n L R hs es) : TabR n es := tabr_of h.gd.tb (by have := h.n2; omega)
theorem GP.gr {n L R : Nat} {hs : List (Nat × Nat)} {es : List (Int × Int × Int)} (h : GP n L R hs es) : GR n L R (hz hs) es := by
 have h1 := h.n1
 have h2 := h.n2
 have h3 := h.l1
 have h4 := h.l2
 have h5 := h.r1
 have h6 := h.r2
 refine ⟨⟨by omega, by omega, by omega, by omega, by omega, by omega⟩, ?_, ?_, h.tab, ?_, ?_⟩
 · rw [show (hz hs).length = hs.length by simp [hz], h.hl]; simp
 ·
  intro j hj _
  have hj' : j < hs.length := by simpa [hz] using hj
  have := h.hh _ (List.getElem_mem hj')
  simp only [hz, List.getElem_map]; omega
 ·
  intro j hj _
  exact h.gd.tr _ (List.getElem_mem hj)
 · exact h.gd.fs
theorem sright_gp {n L R : Nat} {hs : List (Nat × Nat)} {es : List (Int × Int × Int)} {vh ve : Value} {w : World} (hm : GM w vh ve hs es) (h : GP n L R hs es) :
  Calls Tryz.prog 19 #[grV n L R vh ve] w fun e w' => e = .returned (.bool true) ∧ Below w.heap.size w w' :=
 gr_any (hs := hz hs) (by rw [hcz_hz]; exact hm.sh) hm.se (by have := h.el; omega) true ⟨fun _ => rfl, fun _ => h.gr⟩
section
variable {n L R : Nat} {hs : List (Nat × Nat)} {es : List (Int × Int × Int)} {vh ve : Value} {w : World}
def HashPost (hs : List (Nat × Nat)) (R t : Nat) (w : World) (e : Ending) (w' : World) : Prop := ∃ v, e = .returned v ∧ Sl w' w'.heap.size 2 v R (hcs (Tp.hsOf hs R t)) ∧ Below w.heap.size w w'
set_option maxHeartbeats 4000000 in
theorem shashes_ok (hm : GM w vh ve hs es) (hp : GP n L R hs es) {t : Nat} (ht : t < L) :
  Calls Tryz.prog 51 #[grV n L R vh ve, .int .i64 (t : Int)] w (HashPost hs R t w) := by
 obtain ⟨A1, c1, A2, c2, rfl, rfl⟩ := hm.lit
 unfold grV
 obtain ⟨KG, hKG⟩ : ∃ K, K = w.heap.size := ⟨_, rfl⟩
 obtain ⟨w1, hw1⟩ : ∃ W, W = w.alloc (.cells #[.int .i64 (n : Int), .int .i64 (L : Int), .int .i64 (R : Int), .slice A1 hs.length c1, .slice A2 es.length c2] 28) := ⟨_, rfl⟩
 have HB : Hid (Below w.heap.size w w1) := hid (by rw [hw1]; exact bel_new _ _)
 have DG : Hid (Blk w1 KG 28 [.int .i64 (n : Int), .int .i64 (L : Int), .int .i64 (R : Int), .slice A1 hs.length c1, .slice A2 es.length c2]) := hid (by rw [hw1, hKG]; exact Blk.new _ _ _)
 have GM1 : Hid (GM w1 (.slice A1 hs.length c1) (.slice A2 es.length c2) hs es) := hid (by rw [hw1]; exact hm.new _)
 have HP := hid hp
 have HW := hid hw1
 have HKG := hid hKG
 have hn12 : n ≤ 12 := hp.n2
 have hL4 : L ≤ 4 := hp.l2
 have hR3 : R ≤ 3 := hp.r2
 clear hm hp hw1 hKG
 obtain ⟨lo, hlo⟩ : ∃ lo, t * R = lo := ⟨_, rfl⟩
 have hlo2 : (t : Int) * (R : Int) = (lo : Int) := by rw [← hlo]; simp
 have hhi : lo + R ≤ hs.length := by
  rw [HP.out.hl, ← hlo]
  have := Nat.mul_le_mul_right R (show t + 1 ≤ L by omega)
  rw [Nat.add_mul] at this; omega
 have hlen : hs.length ≤ 12 := by rw [HP.out.hl]; exact Nat.le_trans (Nat.mul_le_mul hL4 hR3) (by decide)
 obtain ⟨hi, hhi2⟩ : ∃ hi, lo + R = hi := ⟨_, rfl⟩
 have hsum : (lo : Int) + (R : Int) = (hi : Int) := by rw [← hhi2]; simp
 have hcap : hs.length ≤ c1 := by
  obtain ⟨A', c', hv, hnc, _⟩ := GM1.out.sh
  injection hv with e1 e2 e3; omega
 have hsl := run_mid_of Thsh A1 hs.length c1 lo hi (by omega) (by omega)
 have hdiff : hi - lo = R := by omega
 rw [hdiff] at hsl
 have SM : Hid (Sl w1 w1.heap.size 2 (.slice (cutA A1 c1 lo 2) R (c1 - lo)) R (hcs (Tp.hsOf hs R t))) := hid (by
  have h := GM1.out.sh.mid (lo := lo) (hi := hi) (by omega) (by omega)
  rw [hdiff, hcs_drop, hcs_take] at h
  unfold Tp.hsOf; rw [hlo]; exact h)
 have HLO := hid hlo
 have h1 : (lo : Int) ≤ (hi : Int) := by omega
 have h2 : (hi : Int) ≤ (c1 : Int) := by omega
 have hlo12 : lo ≤ 12 := by omega
 have hhi12 : hi ≤ 12 := by omega
 clear hlo hdiff hhi2 hhi
 go_enter Tryz.func51, Tryz.ntmps51
 go_wp2_with fail
 rw [← HW.out]
 refine (hclone_any _ R _ _ _ SM.out (Nat.le_refl _) (by omega)).mono ?_; rintro e w2 ⟨v2, rfl, s2, b2⟩
 have HS2 := hid s2
 have HB2 := hid (Bl.call HB.out b2)
 clear s2 b2 hsl hsum hlo2
 go_wp2
 go_ret
 exact ⟨v2, rfl, HS2.out, HB2.out⟩
def TreePost (l : List Int) (w : World) (e : Ending) (w' : World) : Prop := ∃ v, e = .returned v ∧ Sl w' w'.heap.size 1 v l.length (ints l) ∧ Below w.heap.size w w'
theorem gtree_post {k : Nat} {t : Int} (hk : k ≤ 1024) {v0 : Value} {m : Nat} {w : World} (hs : Sl w w.heap.size 3 v0 m (eds (frs t es))) (hf : Pt.Fst k (Pt.uv (frs t es))) (v : Int) :
  Calls Tryz.prog 46 #[.int .i64 k, v0, .int .i64 v] w (TreePost (Tp.treeL k es t v) w) := gtree_any hk hs hf v
set_option maxHeartbeats 4000000 in
theorem stree_ok (hm : GM w vh ve hs es) (hp : GP n L R hs es) {t v : Int} (ht : t ≤ L) :
  Calls Tryz.prog 20 #[grV n L R vh ve, .int .i64 t, .int .i64 v] w (TreePost (Tp.treeL n es t v) w) := by
 obtain ⟨A1, c1, A2, c2, rfl, rfl⟩ := hm.lit
 unfold grV
 obtain ⟨KG, hKG⟩ : ∃ K, K = w.heap.size := ⟨_, rfl⟩
 obtain ⟨w1, hw1⟩ : ∃ W, W = w.alloc (.cells #[.int .i64 (n : Int), .int .i64 (L : Int), .int .i64 (R : Int), .slice A1 hs.length c1, .slice A2 es.length c2] 28) := ⟨_, rfl⟩
 have HB : Hid (Below w.heap.size w w1) := hid (by rw [hw1]; exact bel_new _ _)
 have DG : Hid (Blk w1 KG 28 [.int .i64 (n : Int), .int .i64 (L : Int), .int .i64 (R : Int), .slice A1 hs.length c1, .slice A2 es.length c2]) := hid (by rw [hw1, hKG]; exact Blk.new _ _ _)
 have GM1 : Hid (GM w1 (.slice A1 hs.length c1) (.slice A2 es.length c2) hs es) := hid (by rw [hw1]; exact hm.new _)
 have HP := hid hp
 have HW := hid hw1
 have HKG := hid hKG
 have hn12 : n ≤ 12 := hp.n2
 have hL4 : L ≤ 4 := hp.l2
 have hR3 : R ≤ 3 := hp.r2
 clear hm hp hw1 hKG
 have HF : Hid (Pt.Fst n (Pt.uv (frs t es))) := hid (Tp.fst_low HP.out.gd.tb HP.out.gd.fs ht)
 go_enter Tryz.func20, Tryz.ntmps20
 go_wp2_with fail
 rw [← HW.out]
 refine (tforest_any (n := (n : Int)) (k := t) GM1.out.se HP.out.tab (by have := HP.out.el; omega)).mono ?_; rintro e w2 ⟨v2, rfl, s2, b2⟩
 have HS2 := hid s2
 have HB2 := hid (Bl.call HB.out b2)
 clear s2 b2
 go_wp2_with fail
 refine (gtree_post (by omega) HS2.out HF.out v).mono ?_; rintro e w3 ⟨v3, rfl, s3, b3⟩
 have HS3 := hid s3
 have HB3 := hid (Bl.call HB2.out b3)
 clear s3 b3
 go_wp2
 go_ret
 exact ⟨v3, rfl, HS3.out, HB3.out⟩
theorem tree_in (hp : GP n L R hs es) {t v : Int} : ∀ x ∈ Tp.treeL n es t v, 0 ≤ x ∧ x < (n : Int) := by
 intro x hx
 unfold Tp.treeL Pt.classL at hx
 split at hx
 ·
  obtain ⟨i, hi, rfl⟩ := List.mem_map.1 hx
  have := (List.mem_filter.1 hi).1
  rw [List.mem_range, Pt.len_partOf] at this
  exact ⟨by simp, by simpa using this⟩
 · simp at hx
set_option maxHeartbeats 4000000 in
set_option maxRecDepth 100000 in
theorem scut_ok (hm : GM w vh ve hs es) (hp : GP n L R hs es) {t v : Int} (ht : t ≤ L) :
    Calls Tryz.prog 22 #[grV n L R vh ve, .int .i64 t, .int .i64 v] w (FrsPost w (Tp.cutL es (Tp.treeL n es t v))) := by
  obtain ⟨A1, c1, A2, c2, rfl, rfl⟩ := hm.lit
  unfold grV
  obtain ⟨KG, hKG⟩ : ∃ K, K = w.heap.size := ⟨_, rfl⟩
  obtain ⟨w1, hw1⟩ : ∃ W, W = w.alloc (.cells #[.int .i64 (n : Int), .int .i64 (L : Int), .int .i64 (R : Int), .slice A1 hs.length c1, .slice A2 es.length c2] 28) := ⟨_, rfl⟩
  have HB : Hid (Below w.heap.size w w1) := hid (by rw [hw1]; exact bel_new _ _)
  have DG : Hid (Blk w1 KG 28 [.int .i64 (n : Int), .int .i64 (L : Int), .int .i64 (R : Int), .slice A1 hs.length c1, .slice A2 es.length c2]) := hid (by rw [hw1, hKG]; exact Blk.new _ _ _)
  have GM1 : Hid (GM w1 (.slice A1 hs.length c1) (.slice A2 es.length c2) hs es) := hid (by rw [hw1]; exact hm.new _)
  have HP := hid hp
  have HW := hid hw1
  have HKG := hid hKG
  have hn12 : n ≤ 12 := hp.n2
  have hL4 : L ≤ 4 := hp.l2
  have hR3 : R ≤ 3 := hp.r2
  clear hm hp hw1 hKG
  have g0 := DG.out.cell 0
  have g1 := DG.out.cell 1
  have g2 := DG.out.cell 2
  have g3 := DG.out.cell 3
  have g4 := DG.out.cell 4
  have HT := hid ht
  have HIN := hid (tree_in (t := t) (v := v) HP.out)
  clear ht
  go_enter Tryz.func22, Tryz.ntmps22
  go_wp2_with fail
  rw [← HW.out, ← HKG.out]
  go_region_held3 (fun w' => w'.cell? ⟨KG, 0, none⟩ = some (.int .i64 (n : Int)) ∧ w'.cell? ⟨KG, 1, none⟩ = some (.int .i64 (L : Int)) ∧ w'.cell? ⟨KG, 2, none⟩ = some (.int .i64 (R : Int)) ∧ w'.cell? ⟨KG, 3, none⟩ = some (.slice A1 hs.length c1) ∧ w'.cell? ⟨KG, 4, none⟩ = some (.slice A2 es.length c2))
    (first | go_keep | (go_split_ands; and_intros <;> (first | (refine cell_later (by assumption) ?_; first | assumption | (rw [Qt.cell (qt_of _ _)]; assumption) | (rw [Qt.cell (qt_drew _)]; assumption)) | (refine cell_later (bel_new _ _) ?_; assumption) | (rw [Qt.cell (by assumption)]; first | assumption | (rw [Qt.cell (qt_of _ _)]; assumption) | (rw [Qt.cell (qt_drew _)]; assumption)))))
    (first | (go_at_call 20; (with_reducible refine (stree_ok (n := n) (L := L) (R := R) (vh := .slice A1 hs.length c1) (ve := .slice A2 es.length c2) (t := t) (v := v) (by repeat (first | exact GM1.out | refine GM.new ?_ _ | refine GM.cqt ?_ (qt_drew _) | refine GM.cqt ?_ (qt_of _ _) | refine GM.call ?_ (by assumption) | refine GM.cqt ?_ (by assumption))) HP.out HT.out).mono ?_); rintro e w6 ⟨v6, rfl, s6, b6⟩)
           | (go_at_call 47; (with_reducible refine (cut_ok (n := n) (v0 := .slice A2 es.length c2) (v1 := v6) (GM.se (vh := .slice A1 hs.length c1) (hs := hs) (by repeat (first | exact GM1.out | refine GM.new ?_ _ | refine GM.cqt ?_ (qt_drew _) | refine GM.cqt ?_ (qt_of _ _) | refine GM.call ?_ (by assumption) | refine GM.cqt ?_ (by assumption)))) HP.out.tab (by repeat (first | exact s6 | refine Sl.new ?_ _ | refine Sl.cqt ?_ (qt_drew _) | refine Sl.cqt ?_ (qt_of _ _) | refine Sl.call ?_ (by assumption) | refine Sl.cqt ?_ (by assumption))) HIN.out (Nat.le_trans HP.out.el (by decide))).mono ?_); rintro e w7 ⟨v7, rfl, s7, b7⟩))
  all_goals
    go_wp2
    go_ret
    exact ⟨v7, rfl, (by repeat (first | exact s7 | refine Sl.new ?_ _ | refine Sl.cqt ?_ (qt_drew _) | refine Sl.cqt ?_ (qt_of _ _) | refine Sl.call ?_ (by assumption) | refine Sl.cqt ?_ (by assumption))), (by repeat (first | exact HB.out | refine Bl.new ?_ _ | refine Bl.call ?_ (by assumption) | refine Bl.qt ?_ (by assumption) | refine Bl.qt ?_ (qt_drew _) | refine Bl.qt ?_ (qt_of _ _)))⟩
end
end Go.Proofs.YtahodfikhocobaaGreatDoor
