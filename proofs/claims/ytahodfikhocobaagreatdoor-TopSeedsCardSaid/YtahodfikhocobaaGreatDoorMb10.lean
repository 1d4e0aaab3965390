/- The texts TpO, TpP, TpQ, TsP, TopG, TdA, AwP, AwA, AwB, merged. No theorem here is a claim by itself. -/
import Derived.Test.YtahodfikhocobaaGreatDoorMb9
import Derived.Deep.RegionHeld3
import Derived.Deep.Cut
import Derived.Deep.DeepCutAuto
import Derived.Test.YtahodfikhocobaaGreatDoorMb1
import Derived.SizedLaws
import Derived.OpenShut
import Derived.Test.YtahodfikhocobaaGreatDoorMb4
import Derived.Test.YtahodfikhocobaaGreatDoorMb3
import Derived.Lib.OthersKept
namespace Go.Proofs.YtahodfikhocobaaGreatDoor
open Go.RowKit
set_option linter.unusedVariables false
set_option linter.unusedSimpArgs false
attribute [local go_sem ↓] Go.wp_at_zero Go.wp_at_succ
def HownPost (n : Nat) (p : List (Nat × Nat)) (w : World) (e : Ending) (w' : World) : Prop := ∃ A c, e = .returned (.slice A n c) ∧ w'.ownsRow w.heap.size 42 2 (.slice A n c) n (hcs p) ∧ Below w.heap.size w w'
theorem own_lit {w : World} {base : Nat} {e : TypeId} {sz n : Nat} {v : Value} {xs : List Value} (h : w.ownsRow base e sz v n xs) : ∃ A c, v = .slice A n c := by
 rcases h.2 with ⟨h1, h2⟩ | ⟨k, cap, cur, h1, _⟩
 · subst h2; exact ⟨_, _, h1⟩
 · exact ⟨_, _, h1⟩
theorem hclone_own (v : Value) (n B : Nat) (p : List (Nat × Nat)) (w : World) (hs : Sl w B 2 v n (hcs p)) (hB : B ≤ w.heap.size) (hr : n ≤ 8796093022208) :
  Calls Tryz.prog 27 #[v] w (HownPost n p w) := by
 have hs0 := hid hs
 obtain ⟨A, c, rfl, hnc, hcm, hl, hx⟩ := hs
 have heq := fun w => Lib.run_eql_slice_nil (P := Tryz.prog) w 24 42 A n c 0 0 Tryz.underlying24
 cases A with
 | none =>
  have hn : n = 0 := by
   rcases Nat.eq_zero_or_pos n with h | h
   · exact h
   · obtain ⟨_, _, h', _⟩ := hx h; cases h'
  subst hn
  have hp : p = [] := List.eq_nil_of_length_eq_zero (by have := hl; rw [len_hcs] at this; omega)
  subst hp
  go_enter Tryz.func27, Tryz.ntmps27
  go_wp2
  go_ret
  exact ⟨_, _, rfl, World.ownsRow_nil _ _ _ _, Below.refl _ _⟩
 | some ad =>
  clear hx
  go_enter Tryz.func27, Tryz.ntmps27
  go_wp2_with (at_builtin; refine wl_app rfl _ _ Thsh rfl rfl (own_empty w _ _ _ (Nat.le_refl _)) rfl (hs0.out.alloc hB _) (hcs_one _) (by omega) (by simp) ?_)
  intro v' w' hown hbel
  have hown2 : w'.ownsRow w.heap.size 42 2 v' n (hcs p) := by simpa using hown
  obtain ⟨A', c', hv⟩ := own_lit hown2
  subst hv
  go_wp2
  go_ret
  exact ⟨_, _, rfl, hown2, ((Below.refl _ _).alloc (Nat.le_refl _) _).trans hbel⟩
theorem cell_set5 {w : World} {K b i : Nat} {u a1 a2 a3 a4 a5 : Value} (hne : K ≠ b) (h : w.cell? ⟨K, i, none⟩ = some u) : (((((w.setCell ⟨b, 0, none⟩ (a1)).setCell ⟨b, 1, none⟩ (a2)).setCell ⟨b, 2, none⟩ (a3)).setCell ⟨b, 3, none⟩ (a4)).setCell ⟨b, 4, none⟩ (a5)).cell? ⟨K, i, none⟩ = some u := by
 rw [← h]
 unfold World.cell?
 rw [Below.heap_setCell _ _ _ _ hne, Below.heap_setCell _ _ _ _ hne, Below.heap_setCell _ _ _ _ hne, Below.heap_setCell _ _ _ _ hne, Below.heap_setCell _ _ _ _ hne]
def OffB (K : Nat) (v : Value) : Prop := ∀ k, v.ownBlock = some k → k ≠ K
theorem own_isOffB {w : World} {base sz n K : Nat} {e : TypeId} {v : Value} {xs : List Value} (h : w.ownsRow base e sz v n xs) (hK : K < base) : OffB K v := fun k hk => by have := (h.lt k hk).1; omega
theorem own_off5 {w : World} {base sz n k K : Nat} {A : Option Addr} {e : TypeId} {xs : List Value} (h : w.ownsRow base e sz (.slice A n k) n xs) (ho : OffB K (.slice A n k)) (a b c d g : Value) : (((((w.setCell ⟨K, 0, none⟩ (a)).setCell ⟨K, 1, none⟩ (b)).setCell ⟨K, 2, none⟩ (c)).setCell ⟨K, 3, none⟩ (d)).setCell ⟨K, 4, none⟩ (g)).ownsRow base e sz (.slice A n k) n xs := by
 refine own_keep h fun b hb => ?_
 have hne : b ≠ K := ho b hb
 rw [Below.heap_setCell _ _ _ _ hne, Below.heap_setCell _ _ _ _ hne, Below.heap_setCell _ _ _ _ hne, Below.heap_setCell _ _ _ _ hne, Below.heap_setCell _ _ _ _ hne]
theorem own_put5 {w : World} {base base2 sz n K : Nat} {e : TypeId} {v a b c d g : Value} {xs : List Value} (h : w.ownsRow base e sz v n xs) (hK : K < base2) (h2 : w.ownsRow base2 e sz v n xs) : ((((((w.setCell ⟨K, 0, none⟩ (a)).setCell ⟨K, 1, none⟩ (b)).setCell ⟨K, 2, none⟩ (c)).setCell ⟨K, 3, none⟩ (d)).setCell ⟨K, 4, none⟩ (g))).ownsRow base e sz v n xs := by
 refine own_keep h fun k hk => ?_
 have := (h2.lt k hk).1
 have hne : k ≠ K := by omega
 rw [Below.heap_setCell _ _ _ _ hne, Below.heap_setCell _ _ _ _ hne, Below.heap_setCell _ _ _ _ hne, Below.heap_setCell _ _ _ _ hne, Below.heap_setCell _ _ _ _ hne]
def NewPost (N L R : Int) (b : Bool) (hs : List (Nat × Nat)) (w : World) (e : Ending) (w' : World) : Prop :=
 if b = true then ∃ A c, e = .returned (.tuple #[.agg #[.int .i64 N, .int .i64 L, .int .i64 R, .slice A hs.length c, .slice none 0 0], .int .i64 0]) ∧ w'.ownsRow w.heap.size 42 2 (.slice A hs.length c) hs.length (hcs hs) ∧ Below w.heap.size w w'
 else e = .returned (.tuple #[.agg #[.int .i64 0, .int .i64 0, .int .i64 0, .slice none 0 0, .slice none 0 0], .int .i64 1]) ∧ Below w.heap.size w w'
set_option maxHeartbeats 16000000 in
set_option maxRecDepth 100000 in
theorem tnew_is {N L R : Int} {vh : Value} {hs : List (Nat × Nat)} {w : World} (h1 : Sl w w.heap.size 2 vh hs.length (hcs hs)) (hr : hs.length ≤ 8796093022208) (b : Bool) (hb : GR N L R (hz hs) [] ↔ b = true) :
  Calls Tryz.prog 13 #[.agg #[.int .i64 N, .int .i64 L, .int .i64 R], vh] w (NewPost N L R b hs w) := by
 obtain ⟨nh, hnh⟩ : ∃ k, hs.length = k := ⟨_, rfl⟩
 have HNH := hid hnh
 rw [hnh] at h1 hr
 have HB0 := hid hb
 have S0 := hid h1
 obtain ⟨A1, c1, rfl, _, _, _, _⟩ := h1
 clear hb hnh
 obtain ⟨w1, hw1⟩ : ∃ W, W = w.alloc (.cells #[.int .i64 N, .int .i64 L, .int .i64 R] 23) := ⟨_, rfl⟩
 obtain ⟨w2, hw2⟩ : ∃ W, W = w1.alloc (.cells #[.int .i64 0, .int .i64 0, .int .i64 0, .slice none 0 0, .slice none 0 0] 28) := ⟨_, rfl⟩
 obtain ⟨KC, hKC⟩ : ∃ K, K = w.heap.size := ⟨_, rfl⟩
 obtain ⟨K4, hK4⟩ : ∃ K, K = KC + 1 := ⟨_, rfl⟩
 have hsz1 : w1.heap.size = KC + 1 := by rw [hw1, hKC]; simp
 have DC : Hid (Blk w2 KC 23 [.int .i64 N, .int .i64 L, .int .i64 R]) := hid (by rw [hw2, hw1, hKC]; exact (Blk.new _ _ _).alloc _)
 have D4 : Hid (Blk w2 K4 28 [.int .i64 0, .int .i64 0, .int .i64 0, .slice none 0 0, .slice none 0 0]) := hid (by rw [hw2, hK4, ← hsz1]; exact Blk.new _ _ _)
 have HB : Hid (Below w.heap.size w w2) := hid (by rw [hw2, hw1]; exact Bl.new (bel_new _ _) _)
 have S2 : Hid (Sl w2 w2.heap.size 2 (.slice A1 nh c1) nh (hcs hs)) := hid (by rw [hw2, hw1]; exact (S0.out.new _).new _)
 have LO4 : Hid (w.heap.size ≤ K4) := hid (by omega)
 have HW1 := hid hw1
 have HW2 := hid hw2
 have HKC := hid hKC
 have HK4 := hid hK4
 clear hw1 hw2 hKC hK4 hsz1
 go_enter Tryz.func13, Tryz.ntmps13
 go_upto_region 1 with (fail)
 rw [← HW1.out, ← HKC.out, ← HK4.out, ← HW2.out]
 go_cut [6] (fun sv wx => ∃ K6 An cn, sv = .pointer (some ⟨K6, 0, none⟩) ∧ Hid (Blk wx K6 28 [.int .i64 N, .int .i64 L, .int .i64 R, .slice An nh cn, .slice none 0 0] ∧ w2.heap.size ≤ K6) ∧ Hid (wx.ownsRow w.heap.size 42 2 (.slice An nh cn) nh (hcs hs)) ∧ Hid (OffB K4 (.slice An nh cn)) ∧ Hid (Below w2.heap.size w2 wx))
 case first =>
  have g0 := DC.out.cell 0
  have g1 := DC.out.cell 1
  have g2 := DC.out.cell 2
  have hgl := DC.out.lt
  have hgl4 := D4.out.lt
  have HWL := HB.out.size
  have nk0 : KC ≠ w2.heap.size := by omega
  refine wp_region_held_drew (S := fun w' => w'.cell? ⟨KC, 0, none⟩ = some (.int .i64 N) ∧ w'.cell? ⟨KC, 1, none⟩ = some (.int .i64 L) ∧ w'.cell? ⟨KC, 2, none⟩ = some (.int .i64 R)) (by kernel_rfl) ⟨g0, g1, g2⟩ (fun hHeld => ?_)
  refine wpAnyH_take (i := 0) (oi := _) (v := ?rv1) rfl (by kernel_rfl) (by kernel_rfl) (by kernel_rfl) (fun _ _ _ h => h) (Or.inl ⟨by rfl, ?ry1⟩) (by assumption) ?rr1
  case ry1 => (intro w hSw; obtain ⟨y0, y1, y2⟩ := hSw; go_simp; try (with_reducible rfl))
  (try simp only [Act.put, putL])
  refine wpAnyH_take (i := 1) (oi := _) (v := ?rv2) rfl (by kernel_rfl) (by kernel_rfl) (by kernel_rfl) (fun _ _ _ h => h) (Or.inl ⟨by rfl, ?ry2⟩) (by assumption) ?rr2
  case ry2 => (intro w hSw; (try dsimp only at hSw); go_simp; try (with_reducible rfl))
  (try simp only [Act.put, putL])
  refine wpAnyH_ready (rs := [2, 4]) (by kernel_rfl) (by simp) ?_
  refine AllReadyH.cons (o := _) rfl (fun K hK => ?_) ?_
  ·
   go_simp
   go_at_call 27
   refine (hclone_own _ nh _ hs _ (S2.out.cqt (qt_drew _)) (Nat.le_refl _) hr).mono ?_
   rintro e w5 ⟨An, cn, rfl, o5, b5⟩
   have hz5 := b5.size
   (try simp at hz5)
   have nk5 : KC ≠ w5.heap.size := by omega
   refine hK.out _ _ ?_ (fun hHeld => ?_)
   · (first | with_reducible exact ⟨cell_later b5 hHeld.1, cell_later b5 hHeld.2.1, cell_later b5 hHeld.2.2⟩ | with_reducible exact hHeld | with_reducible exact ⟨cell_set5 nk0 hHeld.1, cell_set5 nk0 hHeld.2.1, cell_set5 nk0 hHeld.2.2⟩ | with_reducible exact ⟨cell_set5 nk5 hHeld.1, cell_set5 nk5 hHeld.2.1, cell_set5 nk5 hHeld.2.2⟩ | with_reducible exact ⟨cell_later (bel_new w5 _) hHeld.1, cell_later (bel_new w5 _) hHeld.2.1, cell_later (bel_new w5 _) hHeld.2.2⟩ | with_reducible exact ⟨alloc_swap _ (Ne.symm nk5) hHeld.1, alloc_swap _ (Ne.symm nk5) hHeld.2.1, alloc_swap _ (Ne.symm nk5) hHeld.2.2⟩ | (exact ⟨cell_later (Bl.qt (bel_new w2 _) (qt_drew _)) g0, cell_later (Bl.qt (bel_new w2 _) (qt_drew _)) g1, cell_later (Bl.qt (bel_new w2 _) (qt_drew _)) g2⟩))
   clear hK K
   (try simp only [Act.put, putL])
   refine wpAnyH_ready (rs := [3, 4]) (by kernel_rfl) (by simp) ?_
   refine AllReadyH.cons (o := _) rfl (fun K hK => ?_) ?_
   ·
    go_simp
    refine hK.out _ _ ?_ (fun hHeld => ?_)
    · (first | with_reducible exact ⟨cell_later b5 hHeld.1, cell_later b5 hHeld.2.1, cell_later b5 hHeld.2.2⟩ | with_reducible exact hHeld | with_reducible exact ⟨cell_set5 nk0 hHeld.1, cell_set5 nk0 hHeld.2.1, cell_set5 nk0 hHeld.2.2⟩ | with_reducible exact ⟨cell_set5 nk5 hHeld.1, cell_set5 nk5 hHeld.2.1, cell_set5 nk5 hHeld.2.2⟩ | with_reducible exact ⟨cell_later (bel_new w5 _) hHeld.1, cell_later (bel_new w5 _) hHeld.2.1, cell_later (bel_new w5 _) hHeld.2.2⟩ | with_reducible exact ⟨alloc_swap _ (Ne.symm nk5) hHeld.1, alloc_swap _ (Ne.symm nk5) hHeld.2.1, alloc_swap _ (Ne.symm nk5) hHeld.2.2⟩ | (exact ⟨cell_later (Bl.qt (bel_new w2 _) (qt_drew _)) g0, cell_later (Bl.qt (bel_new w2 _) (qt_drew _)) g1, cell_later (Bl.qt (bel_new w2 _) (qt_drew _)) g2⟩))
    clear hK K
    (try simp only [Act.put, putL])
    refine wpAnyH_ready (rs := [4]) (by kernel_rfl) (by simp) ?_
    refine AllReadyH.cons (o := _) rfl (fun K hK => ?_) ?_
    ·
     go_simp
     refine hK.out _ _ ?_ (fun hHeld => ?_)
     · (first | with_reducible exact ⟨cell_later b5 hHeld.1, cell_later b5 hHeld.2.1, cell_later b5 hHeld.2.2⟩ | with_reducible exact hHeld | with_reducible exact ⟨cell_set5 nk0 hHeld.1, cell_set5 nk0 hHeld.2.1, cell_set5 nk0 hHeld.2.2⟩ | with_reducible exact ⟨cell_set5 nk5 hHeld.1, cell_set5 nk5 hHeld.2.1, cell_set5 nk5 hHeld.2.2⟩ | with_reducible exact ⟨cell_later (bel_new w5 _) hHeld.1, cell_later (bel_new w5 _) hHeld.2.1, cell_later (bel_new w5 _) hHeld.2.2⟩ | with_reducible exact ⟨alloc_swap _ (Ne.symm nk5) hHeld.1, alloc_swap _ (Ne.symm nk5) hHeld.2.1, alloc_swap _ (Ne.symm nk5) hHeld.2.2⟩ | (exact ⟨cell_later (Bl.qt (bel_new w2 _) (qt_drew _)) g0, cell_later (Bl.qt (bel_new w2 _) (qt_drew _)) g1, cell_later (Bl.qt (bel_new w2 _) (qt_drew _)) g2⟩))
     clear hK K
     (try simp only [Act.put, putL])
     refine wpAnyH_ready (rs := [5]) (by kernel_rfl) (by simp) ?_
     refine AllReadyH.cons (o := _) rfl (fun K hK => ?_) ?_
     ·
      go_simp
      refine hK.out _ _ ?_ (fun hHeld => ?_)
      · (first | with_reducible exact ⟨cell_later b5 hHeld.1, cell_later b5 hHeld.2.1, cell_later b5 hHeld.2.2⟩ | with_reducible exact hHeld | with_reducible exact ⟨cell_set5 nk0 hHeld.1, cell_set5 nk0 hHeld.2.1, cell_set5 nk0 hHeld.2.2⟩ | with_reducible exact ⟨cell_set5 nk5 hHeld.1, cell_set5 nk5 hHeld.2.1, cell_set5 nk5 hHeld.2.2⟩ | with_reducible exact ⟨cell_later (bel_new w5 _) hHeld.1, cell_later (bel_new w5 _) hHeld.2.1, cell_later (bel_new w5 _) hHeld.2.2⟩ | with_reducible exact ⟨alloc_swap _ (Ne.symm nk5) hHeld.1, alloc_swap _ (Ne.symm nk5) hHeld.2.1, alloc_swap _ (Ne.symm nk5) hHeld.2.2⟩ | (exact ⟨cell_later (Bl.qt (bel_new w2 _) (qt_drew _)) g0, cell_later (Bl.qt (bel_new w2 _) (qt_drew _)) g1, cell_later (Bl.qt (bel_new w2 _) (qt_drew _)) g2⟩))
      clear hK K
      (try simp only [Act.put, putL])
      refine wpAnyH_done (by kernel_rfl) ?_ _
      go_wp2_with fail
      go_meet
      exact ⟨w5.heap.size, An, cn, rfl, hid ⟨Blk.new w5 28 [.int .i64 N, .int .i64 L, .int .i64 R, .slice An nh cn, .slice none 0 0], by omega⟩, hid ((own_more o5 HWL).alloc _), hid (own_isOffB o5 hgl4), hid (Bl.new (Bl.call (Bl.qt (Below.refl _ _) (qt_drew _)) b5) _)⟩
     exact AllReadyH.nil
    exact AllReadyH.nil
   refine AllReadyH.cons (o := _) rfl (fun K hK => ?_) ?_
   ·
    go_simp
    refine hK.out _ _ ?_ (fun hHeld => ?_)
    · (first | with_reducible exact ⟨cell_later b5 hHeld.1, cell_later b5 hHeld.2.1, cell_later b5 hHeld.2.2⟩ | with_reducible exact hHeld | with_reducible exact ⟨cell_set5 nk0 hHeld.1, cell_set5 nk0 hHeld.2.1, cell_set5 nk0 hHeld.2.2⟩ | with_reducible exact ⟨cell_set5 nk5 hHeld.1, cell_set5 nk5 hHeld.2.1, cell_set5 nk5 hHeld.2.2⟩ | with_reducible exact ⟨cell_later (bel_new w5 _) hHeld.1, cell_later (bel_new w5 _) hHeld.2.1, cell_later (bel_new w5 _) hHeld.2.2⟩ | with_reducible exact ⟨alloc_swap _ (Ne.symm nk5) hHeld.1, alloc_swap _ (Ne.symm nk5) hHeld.2.1, alloc_swap _ (Ne.symm nk5) hHeld.2.2⟩ | (exact ⟨cell_later (Bl.qt (bel_new w2 _) (qt_drew _)) g0, cell_later (Bl.qt (bel_new w2 _) (qt_drew _)) g1, cell_later (Bl.qt (bel_new w2 _) (qt_drew _)) g2⟩))
    clear hK K
    (try simp only [Act.put, putL])
    refine wpAnyH_ready (rs := [3]) (by kernel_rfl) (by simp) ?_
    refine AllReadyH.cons (o := _) rfl (fun K hK => ?_) ?_
    ·
     go_simp
     refine hK.out _ _ ?_ (fun hHeld => ?_)
     · (first | with_reducible exact ⟨cell_later b5 hHeld.1, cell_later b5 hHeld.2.1, cell_later b5 hHeld.2.2⟩ | with_reducible exact hHeld | with_reducible exact ⟨cell_set5 nk0 hHeld.1, cell_set5 nk0 hHeld.2.1, cell_set5 nk0 hHeld.2.2⟩ | with_reducible exact ⟨cell_set5 nk5 hHeld.1, cell_set5 nk5 hHeld.2.1, cell_set5 nk5 hHeld.2.2⟩ | with_reducible exact ⟨cell_later (bel_new w5 _) hHeld.1, cell_later (bel_new w5 _) hHeld.2.1, cell_later (bel_new w5 _) hHeld.2.2⟩ | with_reducible exact ⟨alloc_swap _ (Ne.symm nk5) hHeld.1, alloc_swap _ (Ne.symm nk5) hHeld.2.1, alloc_swap _ (Ne.symm nk5) hHeld.2.2⟩ | (exact ⟨cell_later (Bl.qt (bel_new w2 _) (qt_drew _)) g0, cell_later (Bl.qt (bel_new w2 _) (qt_drew _)) g1, cell_later (Bl.qt (bel_new w2 _) (qt_drew _)) g2⟩))
     clear hK K
     (try simp only [Act.put, putL])
     refine wpAnyH_ready (rs := [5]) (by kernel_rfl) (by simp) ?_
     refine AllReadyH.cons (o := _) rfl (fun K hK => ?_) ?_
     ·
      go_simp
      refine hK.out _ _ ?_ (fun hHeld => ?_)
      · (first | with_reducible exact ⟨cell_later b5 hHeld.1, cell_later b5 hHeld.2.1, cell_later b5 hHeld.2.2⟩ | with_reducible exact hHeld | with_reducible exact ⟨cell_set5 nk0 hHeld.1, cell_set5 nk0 hHeld.2.1, cell_set5 nk0 hHeld.2.2⟩ | with_reducible exact ⟨cell_set5 nk5 hHeld.1, cell_set5 nk5 hHeld.2.1, cell_set5 nk5 hHeld.2.2⟩ | with_reducible exact ⟨cell_later (bel_new w5 _) hHeld.1, cell_later (bel_new w5 _) hHeld.2.1, cell_later (bel_new w5 _) hHeld.2.2⟩ | with_reducible exact ⟨alloc_swap _ (Ne.symm nk5) hHeld.1, alloc_swap _ (Ne.symm nk5) hHeld.2.1, alloc_swap _ (Ne.symm nk5) hHeld.2.2⟩ | (exact ⟨cell_later (Bl.qt (bel_new w2 _) (qt_drew _)) g0, cell_later (Bl.qt (bel_new w2 _) (qt_drew _)) g1, cell_later (Bl.qt (bel_new w2 _) (qt_drew _)) g2⟩))
      clear hK K
      (try simp only [Act.put, putL])
      refine wpAnyH_done (by kernel_rfl) ?_ _
      go_wp2_with fail
      go_meet
      exact ⟨w5.heap.size, An, cn, rfl, hid ⟨Blk.new w5 28 [.int .i64 N, .int .i64 L, .int .i64 R, .slice An nh cn, .slice none 0 0], by omega⟩, hid ((own_more o5 HWL).alloc _), hid (own_isOffB o5 hgl4), hid (Bl.new (Bl.call (Bl.qt (Below.refl _ _) (qt_drew _)) b5) _)⟩
     exact AllReadyH.nil
    exact AllReadyH.nil
   exact AllReadyH.nil
  refine AllReadyH.cons (o := _) rfl (fun K hK => ?_) ?_
  ·
   go_simp
   refine hK.out _ _ ?_ (fun hHeld => ?_)
   · (first | with_reducible exact ⟨cell_later b5 hHeld.1, cell_later b5 hHeld.2.1, cell_later b5 hHeld.2.2⟩ | with_reducible exact hHeld | with_reducible exact ⟨cell_set5 nk0 hHeld.1, cell_set5 nk0 hHeld.2.1, cell_set5 nk0 hHeld.2.2⟩ | with_reducible exact ⟨cell_set5 nk5 hHeld.1, cell_set5 nk5 hHeld.2.1, cell_set5 nk5 hHeld.2.2⟩ | with_reducible exact ⟨cell_later (bel_new w5 _) hHeld.1, cell_later (bel_new w5 _) hHeld.2.1, cell_later (bel_new w5 _) hHeld.2.2⟩ | with_reducible exact ⟨alloc_swap _ (Ne.symm nk5) hHeld.1, alloc_swap _ (Ne.symm nk5) hHeld.2.1, alloc_swap _ (Ne.symm nk5) hHeld.2.2⟩ | (exact ⟨cell_later (Bl.qt (bel_new w2 _) (qt_drew _)) g0, cell_later (Bl.qt (bel_new w2 _) (qt_drew _)) g1, cell_later (Bl.qt (bel_new w2 _) (qt_drew _)) g2⟩))
   clear hK K
   (try simp only [Act.put, putL])
   refine wpAnyH_ready (rs := [2]) (by kernel_rfl) (by simp) ?_
   refine AllReadyH.cons (o := _) rfl (fun K hK => ?_) ?_
   ·
    go_simp
    go_at_call 27
    refine (hclone_own _ nh _ hs _ ((S2.out.new _).cqt (qt_drew _)) (Nat.le_refl _) hr).mono ?_
    rintro e w5 ⟨An, cn, rfl, o5, b5⟩
    have hz5 := b5.size
    (try simp at hz5)
    have nk5 : KC ≠ w5.heap.size := by omega
    have DZ : Blk w5 w2.heap.size 28 [.int .i64 0, .int .i64 0, .int .i64 0, .slice none 0 0, .slice none 0 0] := ((Blk.new w2 28 [.int .i64 0, .int .i64 0, .int .i64 0, .slice none 0 0, .slice none 0 0]).on (qt_drew _).bel).on b5
    have HWL1 : w.heap.size ≤ (w2.alloc (.cells #[.int .i64 0, .int .i64 0, .int .i64 0, .slice none 0 0, .slice none 0 0] 28)).drew.heap.size := Nat.le_trans HWL (Bl.qt (bel_new w2 _) (qt_drew _)).size
    have HWL2 : w2.heap.size < (w2.alloc (.cells #[.int .i64 0, .int .i64 0, .int .i64 0, .slice none 0 0, .slice none 0 0] 28)).drew.heap.size := by show w2.heap.size < (w2.alloc _).heap.size; simp
    have hgl41 : K4 < (w2.alloc (.cells #[.int .i64 0, .int .i64 0, .int .i64 0, .slice none 0 0, .slice none 0 0] 28)).drew.heap.size := Nat.lt_trans hgl4 HWL2
    have z0 := DZ.cell 0
    have z1 := DZ.cell 1
    have z2 := DZ.cell 2
    have z3 := DZ.cell 3
    have z4 := DZ.cell 4
    have fz0 := DZ.frozen 0
    have fz1 := DZ.frozen 1
    have fz2 := DZ.frozen 2
    have fz3 := DZ.frozen 3
    have fz4 := DZ.frozen 4
    refine hK.out _ _ ?_ (fun hHeld => ?_)
    · (first | with_reducible exact ⟨cell_later b5 hHeld.1, cell_later b5 hHeld.2.1, cell_later b5 hHeld.2.2⟩ | with_reducible exact hHeld | with_reducible exact ⟨cell_set5 nk0 hHeld.1, cell_set5 nk0 hHeld.2.1, cell_set5 nk0 hHeld.2.2⟩ | with_reducible exact ⟨cell_set5 nk5 hHeld.1, cell_set5 nk5 hHeld.2.1, cell_set5 nk5 hHeld.2.2⟩ | with_reducible exact ⟨cell_later (bel_new w5 _) hHeld.1, cell_later (bel_new w5 _) hHeld.2.1, cell_later (bel_new w5 _) hHeld.2.2⟩ | with_reducible exact ⟨alloc_swap _ (Ne.symm nk5) hHeld.1, alloc_swap _ (Ne.symm nk5) hHeld.2.1, alloc_swap _ (Ne.symm nk5) hHeld.2.2⟩ | (exact ⟨cell_later (Bl.qt (bel_new w2 _) (qt_drew _)) g0, cell_later (Bl.qt (bel_new w2 _) (qt_drew _)) g1, cell_later (Bl.qt (bel_new w2 _) (qt_drew _)) g2⟩))
    clear hK K
    (try simp only [Act.put, putL])
    refine wpAnyH_ready (rs := [3]) (by kernel_rfl) (by simp) ?_
    refine AllReadyH.cons (o := _) rfl (fun K hK => ?_) ?_
    ·
     go_simp
     refine hK.out _ _ ?_ (fun hHeld => ?_)
     · (first | with_reducible exact ⟨cell_later b5 hHeld.1, cell_later b5 hHeld.2.1, cell_later b5 hHeld.2.2⟩ | with_reducible exact hHeld | with_reducible exact ⟨cell_set5 nk0 hHeld.1, cell_set5 nk0 hHeld.2.1, cell_set5 nk0 hHeld.2.2⟩ | with_reducible exact ⟨cell_set5 nk5 hHeld.1, cell_set5 nk5 hHeld.2.1, cell_set5 nk5 hHeld.2.2⟩ | with_reducible exact ⟨cell_later (bel_new w5 _) hHeld.1, cell_later (bel_new w5 _) hHeld.2.1, cell_later (bel_new w5 _) hHeld.2.2⟩ | with_reducible exact ⟨alloc_swap _ (Ne.symm nk5) hHeld.1, alloc_swap _ (Ne.symm nk5) hHeld.2.1, alloc_swap _ (Ne.symm nk5) hHeld.2.2⟩ | (exact ⟨cell_later (Bl.qt (bel_new w2 _) (qt_drew _)) g0, cell_later (Bl.qt (bel_new w2 _) (qt_drew _)) g1, cell_later (Bl.qt (bel_new w2 _) (qt_drew _)) g2⟩))
     clear hK K
     (try simp only [Act.put, putL])
     refine wpAnyH_ready (rs := [5]) (by kernel_rfl) (by simp) ?_
     refine AllReadyH.cons (o := _) rfl (fun K hK => ?_) ?_
     ·
      go_simp
      refine hK.out _ _ ?_ (fun hHeld => ?_)
      · (first | with_reducible exact ⟨cell_later b5 hHeld.1, cell_later b5 hHeld.2.1, cell_later b5 hHeld.2.2⟩ | with_reducible exact hHeld | with_reducible exact ⟨cell_set5 nk0 hHeld.1, cell_set5 nk0 hHeld.2.1, cell_set5 nk0 hHeld.2.2⟩ | with_reducible exact ⟨cell_set5 nk5 hHeld.1, cell_set5 nk5 hHeld.2.1, cell_set5 nk5 hHeld.2.2⟩ | with_reducible exact ⟨cell_later (bel_new w5 _) hHeld.1, cell_later (bel_new w5 _) hHeld.2.1, cell_later (bel_new w5 _) hHeld.2.2⟩ | with_reducible exact ⟨alloc_swap _ (Ne.symm nk5) hHeld.1, alloc_swap _ (Ne.symm nk5) hHeld.2.1, alloc_swap _ (Ne.symm nk5) hHeld.2.2⟩ | (exact ⟨cell_later (Bl.qt (bel_new w2 _) (qt_drew _)) g0, cell_later (Bl.qt (bel_new w2 _) (qt_drew _)) g1, cell_later (Bl.qt (bel_new w2 _) (qt_drew _)) g2⟩))
      clear hK K
      (try simp only [Act.put, putL])
      refine wpAnyH_done (by kernel_rfl) ?_ _
      go_wp2_with fail
      go_meet
      exact ⟨w2.heap.size, An, cn, rfl, hid ⟨put5_blk DZ, Nat.le_refl _⟩, hid (own_put5 (own_more o5 HWL1) HWL2 o5), hid (own_isOffB o5 hgl41), hid (put5_bel (Bl.call (Bl.qt (bel_new w2 _) (qt_drew _)) b5) (Nat.le_refl _))⟩
     exact AllReadyH.nil
    exact AllReadyH.nil
   exact AllReadyH.nil
  exact AllReadyH.nil
 case rest =>
  obtain ⟨K6, An, cn, rfl, HD6, HO, OFF4, HB6⟩ := hcut
  have B6 := HB6.out
  have NE4 : Hid (K4 ≠ K6) := hid (by have := D4.out.lt; have := HD6.out.2; omega)
  replace D4 := hid (D4.out.on B6)
  replace HB := hid (Bl.call HB.out B6)
  have D6 := hid HD6.out.1
  clear HD6 HB6 B6 DC S2
  have n0 := D6.out.cell 0
  have n1 := D6.out.cell 1
  have n2 := D6.out.cell 2
  have n3 := D6.out.cell 3
  have n4 := D6.out.cell 4
  have SHH := hid (Sl.of_own HO.out)
  go_wp2_with fail
  refine (gr_any (N := N) (L := L) (R := R) (hs := hz hs) (es := []) (vh := .slice An nh cn) (ve := .slice none 0 0) (nh := nh) (ne := 0) (by rw [hcz_hz]; exact SHH.out) (Sl.none_ _ _ _) (by omega) b HB0.out).mono ?_; rintro e w7 ⟨rfl, b7⟩
  clear n0 n1 n2 n3 n4
  replace D4 := hid (D4.out.on b7)
  replace D6 := hid (D6.out.on b7)
  have HO7 := hid (own_below HO.out b7)
  replace HB := hid (Bl.call HB.out b7)
  clear b7 SHH
  cases b with
  | true =>
   have g0 := D6.out.cell 0
   have g1 := D6.out.cell 1
   have g2 := D6.out.cell 2
   have g3 := D6.out.cell 3
   have g4 := D6.out.cell 4
   have f0 := D4.out.frozen 0
   have f1 := D4.out.frozen 1
   have f2 := D4.out.frozen 2
   have f3 := D4.out.frozen 3
   have f4 := D4.out.frozen 4
   have p0 := D4.out.cell 0
   have p1 := D4.out.cell 1
   have p2 := D4.out.cell 2
   have p3 := D4.out.cell 3
   have p4 := D4.out.cell 4
   obtain ⟨w99, hw⟩ : ∃ z, z = (((((w7.setCell ⟨K4, 0, none⟩ (.int .i64 N)).setCell ⟨K4, 1, none⟩ (.int .i64 L)).setCell ⟨K4, 2, none⟩ (.int .i64 R)).setCell ⟨K4, 3, none⟩ (.slice An nh cn)).setCell ⟨K4, 4, none⟩ (.slice none 0 0)) := ⟨_, rfl⟩
   have D8 : Hid (Blk w99 K4 28 [.int .i64 N, .int .i64 L, .int .i64 R, .slice An nh cn, .slice none 0 0]) := hid (by rw [hw]; exact put5_blk D4.out)
   have HB8 : Hid (Below w.heap.size w w99) := hid (by rw [hw]; exact put5_bel HB.out LO4.out)
   have HO8 := hid (own_off5 HO7.out OFF4.out (.int .i64 N) (.int .i64 L) (.int .i64 R) (.slice An nh cn) (.slice none 0 0))
   rw [← hw] at HO8
   have HW8 := hid hw
   clear hw
   go_wp2
   rw [← HW8.out]
   clear f0 f1 f2 f3 f4
   clear p0 p1 p2 p3 p4
   clear g0 g1 g2 g3 g4
   have e0 := D8.out.cell 0
   have e1 := D8.out.cell 1
   have e2 := D8.out.cell 2
   have e3 := D8.out.cell 3
   have e4 := D8.out.cell 4
   exact bodyPost_ret (v := .tuple #[.agg #[.int .i64 N, .int .i64 L, .int .i64 R, .slice An nh cn, .slice none 0 0], .int .i64 0]) (by simp [results, Tryz.results13, go_sem, e0, e1, e2, e3, e4]) rfl (by unfold NewPost; rw [if_pos rfl, HNH.out]; exact ⟨_, _, rfl, HO8.out, HB8.out⟩)
  | false =>
   have f0 := D4.out.frozen 0
   have f1 := D4.out.frozen 1
   have f2 := D4.out.frozen 2
   have f3 := D4.out.frozen 3
   have f4 := D4.out.frozen 4
   have p0 := D4.out.cell 0
   have p1 := D4.out.cell 1
   have p2 := D4.out.cell 2
   have p3 := D4.out.cell 3
   have p4 := D4.out.cell 4
   obtain ⟨w99, hw⟩ : ∃ z, z = (((((w7.setCell ⟨K4, 0, none⟩ (.int .i64 0)).setCell ⟨K4, 1, none⟩ (.int .i64 0)).setCell ⟨K4, 2, none⟩ (.int .i64 0)).setCell ⟨K4, 3, none⟩ (.slice none 0 0)).setCell ⟨K4, 4, none⟩ (.slice none 0 0)) := ⟨_, rfl⟩
   have D8 : Hid (Blk w99 K4 28 [.int .i64 0, .int .i64 0, .int .i64 0, .slice none 0 0, .slice none 0 0]) := hid (by rw [hw]; exact put5_blk D4.out)
   have HB8 : Hid (Below w.heap.size w w99) := hid (by rw [hw]; exact put5_bel HB.out LO4.out)
   have HO8 := hid (own_off5 HO7.out OFF4.out (.int .i64 0) (.int .i64 0) (.int .i64 0) (.slice none 0 0) (.slice none 0 0))
   rw [← hw] at HO8
   have HW8 := hid hw
   clear hw
   go_wp2
   rw [← HW8.out]
   clear f0 f1 f2 f3 f4
   clear p0 p1 p2 p3 p4
   have e0 := D8.out.cell 0
   have e1 := D8.out.cell 1
   have e2 := D8.out.cell 2
   have e3 := D8.out.cell 3
   have e4 := D8.out.cell 4
   exact bodyPost_ret (v := .tuple #[.agg #[.int .i64 0, .int .i64 0, .int .i64 0, .slice none 0 0, .slice none 0 0], .int .i64 1]) (by simp [results, Tryz.results13, go_sem, e0, e1, e2, e3, e4]) rfl (by unfold NewPost; rw [if_neg (by decide)]; exact ⟨rfl, HB8.out⟩)
def atc (l : List (Bool × Int × Int)) : List Value := l.flatMap fun e => [.bool e.1, .int .i64 e.2.1, .int .i64 e.2.2]
theorem len_atc (l : List (Bool × Int × Int)) : (atc l).length = l.length * 3 := by
 induction l with
 | nil => rfl
 | cons e l ih => simp [atc] at ih ⊢; omega
theorem atc_at (l : List (Bool × Int × Int)) (k : Nat) (h : k < l.length) :
  (atc l)[k * 3]? = some (.bool l[k].1) ∧ (atc l)[k * 3 + 1]? = some (.int .i64 l[k].2.1) ∧ (atc l)[k * 3 + 2]? = some (.int .i64 l[k].2.2) := by
 induction l generalizing k with
 | nil => simp at h
 | cons e l ih =>
  cases k with
  | zero => simp [atc]
  | succ k =>
   have := ih k (by simpa using h)
   simp only [atc, List.flatMap_cons, List.getElem_cons_succ] at this ⊢
   refine ⟨?_, ?_, ?_⟩
   · rw [show (k + 1) * 3 = k * 3 + 3 by omega, List.getElem?_append_right (by simp)]; simpa using this.1
   · rw [show (k + 1) * 3 + 1 = k * 3 + 1 + 3 by omega, List.getElem?_append_right (by simp)]; simpa using this.2.1
   · rw [show (k + 1) * 3 + 2 = k * 3 + 2 + 3 by omega, List.getElem?_append_right (by simp)]; simpa using this.2.2
theorem atc_cell {w : World} {b o : Nat} {l : List (Bool × Int × Int)} (h : ∀ j u, (atc l)[j]? = some u → w.cell? ⟨b, o + j, none⟩ = some u) {k : Nat} (hk : k < l.length) :
  w.cell? ⟨b, o + k * 3, none⟩ = some (.bool l[k].1) ∧ w.cell? ⟨b, o + k * 3 + 1, none⟩ = some (.int .i64 l[k].2.1) ∧ w.cell? ⟨b, o + k * 3 + 2, none⟩ = some (.int .i64 l[k].2.2) := by
 have e := atc_at l k hk
 exact ⟨h _ _ e.1, by rw [Nat.add_assoc]; exact h _ _ e.2.1, by rw [Nat.add_assoc]; exact h _ _ e.2.2⟩
def FewOk (N L R : Int) : Prop := (1 ≤ N ∧ N ≤ 12) ∧ (1 ≤ L ∧ L ≤ 4) ∧ (1 ≤ R ∧ R ≤ 3)
def few (N L R : Int) (m : Nat) : Int := if 1 ≤ N ∧ 1 ≤ L ∧ 1 ≤ R ∧ N ≤ 12 ∧ L ≤ 4 ∧ R ≤ 3 then ((min m 30 : Nat) : Int) else -1
set_option maxHeartbeats 8000000 in
set_option maxRecDepth 100000 in
theorem few_is {N L R : Int} {va : Value} {m : Nat} {acts : List (Bool × Int × Int)} {w : World} (hs : Sl w w.heap.size 3 va m (atc acts)) :
  Calls Tryz.prog 12 #[.agg #[.int .i64 N, .int .i64 L, .int .i64 R], va] w fun e w' => e = .returned (.int .i64 (few N L R m)) ∧ Below w.heap.size w w' := by
 obtain ⟨A, c, rfl, hnc, hcm, hll, hx⟩ := hs
 have hm63 : m ≤ 9223372036854775807 := by unfold maxLen at hcm; omega
 have HB := hid (bel_new w (.cells #[.int .i64 N, .int .i64 L, .int .i64 R] 23))
 clear hx hll hcm hnc
 by_cases c0 : 1 ≤ N
 case neg =>
  have HF : Hid (few N L R m = -1) := hid (by unfold few; rw [if_neg (by intro h; exact c0 h.1)])
  have n0 : N < 1 := by omega
  go_enter Tryz.func12, Tryz.ntmps12
  go_wp2
  go_ret
  exact ⟨by rw [HF.out]; rfl, HB.out⟩
 case pos =>
 have n0 : ¬ N < 1 := by omega
 by_cases c1 : 1 ≤ L
 case neg =>
  have HF : Hid (few N L R m = -1) := hid (by unfold few; rw [if_neg (by intro h; exact c1 h.2.1)])
  have n1 : L < 1 := by omega
  go_enter Tryz.func12, Tryz.ntmps12
  go_wp2
  go_ret
  exact ⟨by rw [HF.out]; rfl, HB.out⟩
 case pos =>
 have n1 : ¬ L < 1 := by omega
 by_cases c2 : 1 ≤ R
 case neg =>
  have HF : Hid (few N L R m = -1) := hid (by unfold few; rw [if_neg (by intro h; exact c2 h.2.2.1)])
  have n2 : R < 1 := by omega
  go_enter Tryz.func12, Tryz.ntmps12
  go_wp2
  go_ret
  exact ⟨by rw [HF.out]; rfl, HB.out⟩
 case pos =>
 have n2 : ¬ R < 1 := by omega
 by_cases c3 : N ≤ 12
 case neg =>
  have HF : Hid (few N L R m = -1) := hid (by unfold few; rw [if_neg (by intro h; exact c3 h.2.2.2.1)])
  have n3 : 12 < N := by omega
  go_enter Tryz.func12, Tryz.ntmps12
  go_wp2
  go_ret
  exact ⟨by rw [HF.out]; rfl, HB.out⟩
 case pos =>
 have n3 : ¬ 12 < N := by omega
 by_cases c4 : L ≤ 4
 case neg =>
  have HF : Hid (few N L R m = -1) := hid (by unfold few; rw [if_neg (by intro h; exact c4 h.2.2.2.2.1)])
  have n4 : 4 < L := by omega
  go_enter Tryz.func12, Tryz.ntmps12
  go_wp2
  go_ret
  exact ⟨by rw [HF.out]; rfl, HB.out⟩
 case pos =>
 have n4 : ¬ 4 < L := by omega
 by_cases c5 : R ≤ 3
 case neg =>
  have HF : Hid (few N L R m = -1) := hid (by unfold few; rw [if_neg (by intro h; exact c5 h.2.2.2.2.2)])
  have n5 : 3 < R := by omega
  go_enter Tryz.func12, Tryz.ntmps12
  go_wp2
  go_ret
  exact ⟨by rw [HF.out]; rfl, HB.out⟩
 case pos =>
 have n5 : ¬ 3 < R := by omega
 by_cases h30 : m ≤ 30
 case pos =>
  have HF : Hid (few N L R m = (m : Int)) := hid (by unfold few; rw [if_pos ⟨c0, c1, c2, c3, c4, c5⟩, Nat.min_eq_left h30])
  have a1 : (m : Int) ≤ 30 := by omega
  have a2 : ¬ (30 : Int) < (m : Int) := by omega
  go_enter Tryz.func12, Tryz.ntmps12
  go_wp2
  go_ret
  exact ⟨by rw [HF.out]; rfl, HB.out⟩
 case neg =>
  have HF : Hid (few N L R m = 30) := hid (by unfold few; rw [if_pos ⟨c0, c1, c2, c3, c4, c5⟩, Nat.min_eq_right (by omega)]; rfl)
  have a1 : ¬ (m : Int) ≤ 30 := by omega
  have a2 : (30 : Int) < (m : Int) := by omega
  go_enter Tryz.func12, Tryz.ntmps12
  go_wp2
  go_ret
  exact ⟨by rw [HF.out]; rfl, HB.out⟩
theorem Tacts : SlT 25 52 (.agg #[.bool false, .int .i64 0, .int .i64 0]) 3 24 := SlT.mk Tryz.underlying25 (by kernel_rfl) rfl (by decide) (by decide)
theorem atc_take (l : List (Bool × Int × Int)) (k : Nat) : (atc l).take (k * 3) = atc (l.take k) := by
 induction k generalizing l with
 | zero => simp [atc]
 | succ k ih =>
  cases l with
  | nil => simp [atc]
  | cons a l =>
   rw [List.take_succ_cons, show (k + 1) * 3 = k * 3 + 1 + 1 + 1 by omega]
   have := ih l
   simp [atc] at this ⊢
   exact this
def actF (n L : Nat) (S : Nat → List (Int × Int) → Option Nat) (es : List (Int × Int × Int)) (a : Bool × Int × Int) : List (Int × Int × Int) := if a.1 then Tp.delF n L S es a.2.1 a.2.2 else Tp.insF n L S es a.2.1 a.2.2
def actsF (n L : Nat) (S : Nat → List (Int × Int) → Option Nat) (l : List (Bool × Int × Int)) : List (Int × Int × Int) := l.foldl (actF n L S) []
theorem acts_next (n L : Nat) (S : Nat → List (Int × Int) → Option Nat) {l : List (Bool × Int × Int)} {i : Nat} (h : i < l.length) : actsF n L S (l.take (i + 1)) = actF n L S (actsF n L S (l.take i)) l[i] := by
 unfold actsF
 rw [List.take_succ_eq_append_getElem h, List.foldl_append]; rfl
theorem len_ins {n L R : Nat} {hs : List (Nat × Nat)} {es : List (Int × Int × Int)} (hp : GP n L R hs es) {S : Nat → List (Int × Int) → Option Nat} (hS : Tp.SOk S) (hel : es.length ≤ 999) (u v : Int) : GP n L R hs (Tp.insF n L S es u v) ∧ (Tp.insF n L S es u v).length ≤ es.length + 1 := by
 unfold Tp.insF
 split
 ·
  rename_i hc
  have hg := hp.add hc.1 hc.2.1 hc.2.2.1 hc.2.2.2 hel
  have hl := hp.l2
  refine ⟨hg.mend hc.1 hc.2.1 hS L (Nat.le_refl _), ?_⟩
  rw [uv_len (Tp.mend_uv hg.gd (by omega) hS hc.1 hc.2.1 L (Nat.le_refl _))]
  unfold Tp.addF
  have := congrArg List.length (List.takeWhile_append_dropWhile (p := fun e => Tp.lsB e (Tp.newE u v)) (l := es))
  rw [List.length_append] at this ⊢
  rw [List.length_cons]; omega
 · exact ⟨hp, by omega⟩
theorem len_del {n L R : Nat} {hs : List (Nat × Nat)} {es : List (Int × Int × Int)} (hp : GP n L R hs es) {S : Nat → List (Int × Int) → Option Nat} (hS : Tp.SOk S) (u v : Int) : GP n L R hs (Tp.delF n L S es u v) ∧ (Tp.delF n L S es u v).length ≤ es.length := by
 unfold Tp.delF
 split
 ·
  rename_i hc
  cases Tp.fiP (Pt.uv es) u v with
  | none => exact ⟨hp, Nat.le_refl _⟩
  | some i =>
   have hg := hp.del i
   have hl := hp.l2
   refine ⟨hg.mend hc.1 hc.2 hS L (Nat.le_refl _), ?_⟩
   show (Tp.mendF n L S (es.eraseIdx i) u v L).length ≤ es.length
   rw [uv_len (Tp.mend_uv hg.gd (by omega) hS hc.1 hc.2 L (Nat.le_refl _))]
   exact (List.eraseIdx_sublist es i).length_le
 · exact ⟨hp, Nat.le_refl _⟩
theorem gp_acts {n L R : Nat} {hs : List (Nat × Nat)} (h0 : GP n L R hs []) {S : Nat → List (Int × Int) → Option Nat} (hS : Tp.SOk S) : ∀ l : List (Bool × Int × Int), l.length ≤ 900 → GP n L R hs (actsF n L S l) ∧ (actsF n L S l).length ≤ l.length := by
 refine Pt.snoc_ind ?_ ?_
 · intro _; exact ⟨h0, Nat.le_refl _⟩
 ·
  intro l a ih hl
  rw [List.length_append] at hl
  simp at hl
  obtain ⟨g, hlen⟩ := ih (by omega)
  have e : actsF n L S (l ++ [a]) = actF n L S (actsF n L S l) a := by unfold actsF; rw [List.foldl_append]; rfl
  rw [e, List.length_append]
  unfold actF
  split
  ·
   have := len_del g hS a.2.1 a.2.2
   exact ⟨this.1, by simp; omega⟩
  ·
   have := len_ins g hS (by omega) a.2.1 a.2.2
   exact ⟨this.1, by simp; omega⟩
theorem gp_new {N L R : Int} {hs : List (Nat × Nat)} (hf : FewOk N L R) (hg : GR N L R (hz hs) []) : GP N.toNat L.toNat R.toNat hs [] := by
 obtain ⟨⟨a1, a2⟩, ⟨b1, b2⟩, c1, c2⟩ := hf
 obtain ⟨h1, h2, h3, _⟩ := hg
 refine ⟨by omega, by omega, by omega, by omega, by omega, by omega, ?_, ?_, Tp.gd_nil (by omega), by simp⟩
 ·
  have e : ((L.toNat * R.toNat : Nat) : Int) = L * R := by rw [Int.natCast_mul, Int.toNat_of_nonneg (by omega), Int.toNat_of_nonneg (by omega)]
  have : (hz hs).length = hs.length := by simp [hz]
  rw [this] at h2
  omega
 ·
  intro h hh
  obtain ⟨j, hj, rfl⟩ := List.mem_iff_getElem.1 hh
  have := h3 j (by simpa [hz] using hj) (by simpa [hz] using hj)
  simp only [hz, List.getElem_map] at this
  omega
theorem few_neg {N L R : Int} {m : Nat} (h : ¬ FewOk N L R) : few N L R m = -1 := by
 unfold few; rw [if_neg]
 intro q; exact h ⟨⟨q.1, q.2.2.2.1⟩, ⟨q.2.1, q.2.2.2.2.1⟩, q.2.2.1, q.2.2.2.2.2⟩
theorem few_pos {N L R : Int} {m : Nat} (h : FewOk N L R) : few N L R m = ((min m 30 : Nat) : Int) := by
 unfold few; rw [if_pos ⟨h.1.1, h.2.1.1, h.2.2.1, h.1.2, h.2.1.2, h.2.2.2⟩]
def BhPost (n L R : Nat) (hs : List (Nat × Nat)) (r : Option (List (Int × Int × Int))) (w : World) (e : Ending) (w' : World) : Prop :=
 match r with
 | none => e = .returned (.tuple #[.agg #[.int .i64 0, .int .i64 0, .int .i64 0, .slice none 0 0, .slice none 0 0], .slice none 0 0, .bool false]) ∧ Below w.heap.size w w'
 | some es => ∃ vh ve va, e = .returned (.tuple #[.agg #[.int .i64 (n : Int), .int .i64 (L : Int), .int .i64 (R : Int), vh, ve], va, .bool true]) ∧ GM w' vh ve hs es ∧ Below w.heap.size w w'
set_option maxHeartbeats 32000000 in
set_option maxRecDepth 100000 in
theorem behind_no {N L R : Int} {vh va : Value} {m : Nat} {hs : List (Nat × Nat)} {acts : List (Bool × Int × Int)} {w : World} (h1 : Sl w w.heap.size 2 vh hs.length (hcs hs)) (hr : hs.length ≤ 8796093022208) (h2 : Sl w w.heap.size 3 va m (atc acts)) (hno : ¬ FewOk N L R ∨ ¬ GR N L R (hz hs) []) :
  Calls Tryz.prog 5 #[.agg #[.int .i64 N, .int .i64 L, .int .i64 R], vh, va] w (BhPost 0 0 0 hs none w) := by
 have SH := hid h1
 have SA := hid h2
 have SA0 := hid h2
 have HR := hid hr
 obtain ⟨nh, hnh⟩ : ∃ k, k = hs.length := ⟨_, rfl⟩
 obtain ⟨A1, c1, hv1, _, _, _, _⟩ := id h1
 obtain ⟨A2, c2, hv2, hmc, hcm, _, _⟩ := id h2
 subst hv1 hv2
 clear hnh
 obtain ⟨w1, hw1⟩ : ∃ W, W = w.alloc (.cells #[.int .i64 N, .int .i64 L, .int .i64 R] 23) := ⟨_, rfl⟩
 obtain ⟨w2, hw2⟩ : ∃ W, W = w1.alloc (.cells #[.int .i64 0, .int .i64 0, .int .i64 0, .slice none 0 0, .slice none 0 0] 28) := ⟨_, rfl⟩
 obtain ⟨KC, hKC⟩ : ∃ K, K = w.heap.size := ⟨_, rfl⟩
 obtain ⟨K6, hK6⟩ : ∃ K, K = KC + 1 := ⟨_, rfl⟩
 have hsz1 : w1.heap.size = KC + 1 := by rw [hw1, hKC]; simp
 have DC : Hid (Blk w2 KC 23 [.int .i64 N, .int .i64 L, .int .i64 R]) := hid (by rw [hw2, hw1, hKC]; exact (Blk.new _ _ _).alloc _)
 have D6 : Hid (Blk w2 K6 28 [.int .i64 0, .int .i64 0, .int .i64 0, .slice none 0 0, .slice none 0 0]) := hid (by rw [hw2, hK6, ← hsz1]; exact Blk.new _ _ _)
 have HB : Hid (Below w.heap.size w w2) := hid (by rw [hw2, hw1]; exact Bl.new (bel_new _ _) _)
 replace SH : Hid (Sl w2 w2.heap.size 2 (.slice A1 hs.length c1) hs.length (hcs hs)) := hid (by rw [hw2, hw1]; exact (SH.out.new _).new _)
 replace SA : Hid (Sl w2 w2.heap.size 3 (.slice A2 m c2) m (atc acts)) := hid (by rw [hw2, hw1]; exact (SA.out.new _).new _)
 have LO6 : Hid (w.heap.size ≤ K6) := hid (by omega)
 have LOC : Hid (w.heap.size ≤ KC) := hid (by omega)
 have HW1 := hid hw1
 have HW2 := hid hw2
 have HKC := hid hKC
 have HK6 := hid hK6
 clear hw1 hw2 hKC hK6 hsz1 hr h1 h2
 by_cases hg : GR N L R (hz hs) []
 case pos =>
  have hf : ¬ FewOk N L R := fun q => (hno.elim (fun h => h q) (fun h => h hg))
  have hfe : few N L R m = -1 := few_neg hf
  have HG := hid hg
  clear hno hf hg
  go_enter Tryz.func5, Tryz.ntmps5
  go_upto_region 1 with (fail)
  rw [← HW1.out, ← HKC.out, ← HK6.out, ← HW2.out]
  have n0 := DC.out.cell 0
  have n1 := DC.out.cell 1
  have n2 := DC.out.cell 2
  go_wp2_with fail
  refine (few_is SA.out).mono ?_; rintro e w3 ⟨rfl, b3⟩
  clear n0 n1 n2
  replace DC := hid (DC.out.on b3)
  replace D6 := hid (D6.out.on b3)
  replace SH := hid (SH.out.call b3)
  replace SA := hid (SA.out.call b3)
  replace HB := hid (Bl.call HB.out b3)
  clear b3
  have n0 := DC.out.cell 0
  have n1 := DC.out.cell 1
  have n2 := DC.out.cell 2
  go_wp2_with fail
  refine (tnew_is SH.out HR.out true ⟨fun _ => rfl, fun _ => HG.out⟩).mono ?_; intro e w4 hpost
  clear n0 n1 n2
  unfold NewPost at hpost
  rw [if_pos rfl] at hpost
  obtain ⟨An, cn, rfl, o4, b4⟩ := hpost
  replace DC := hid (DC.out.on b4)
  replace D6 := hid (D6.out.on b4)
  replace SH := hid (SH.out.call b4)
  replace SA := hid (SA.out.call b4)
  replace HB := hid (Bl.call HB.out b4)
  have bz := bel_new w4 (.cells #[.int .i64 N, .int .i64 L, .int .i64 R, .slice An hs.length cn, .slice none 0 0] 28)
  obtain ⟨w5, hw5⟩ : ∃ W, W = w4.alloc (.cells #[.int .i64 N, .int .i64 L, .int .i64 R, .slice An hs.length cn, .slice none 0 0] 28) := ⟨_, rfl⟩
  obtain ⟨K10, hK10⟩ : ∃ K, K = w4.heap.size := ⟨_, rfl⟩
  have D10 : Hid (Blk w5 K10 28 [.int .i64 N, .int .i64 L, .int .i64 R, .slice An hs.length cn, .slice none 0 0]) := hid (by rw [hw5, hK10]; exact Blk.new _ _ _)
  rw [← hw5] at bz
  replace DC := hid (DC.out.on bz)
  replace D6 := hid (D6.out.on bz)
  replace SH := hid (SH.out.call bz)
  replace SA := hid (SA.out.call bz)
  replace HB := hid (Bl.call HB.out bz)
  have HW5 := hid hw5
  have HK10 := hid hK10
  clear bz b4 hw5 hK10
  go_upto_region 4 with (fail)
  rw [← HW5.out]
  have f0 := D6.out.frozen 0
  have f1 := D6.out.frozen 1
  have f2 := D6.out.frozen 2
  have f3 := D6.out.frozen 3
  have f4 := D6.out.frozen 4
  have p0 := D6.out.cell 0
  have p1 := D6.out.cell 1
  have p2 := D6.out.cell 2
  have p3 := D6.out.cell 3
  have p4 := D6.out.cell 4
  obtain ⟨w99, hw⟩ : ∃ z, z = (((((w5.setCell ⟨K6, 0, none⟩ (.int .i64 0)).setCell ⟨K6, 1, none⟩ (.int .i64 0)).setCell ⟨K6, 2, none⟩ (.int .i64 0)).setCell ⟨K6, 3, none⟩ (.slice none 0 0)).setCell ⟨K6, 4, none⟩ (.slice none 0 0)) := ⟨_, rfl⟩
  have D8 : Hid (Blk w99 K6 28 [.int .i64 0, .int .i64 0, .int .i64 0, .slice none 0 0, .slice none 0 0]) := hid (by rw [hw]; exact put5_blk D6.out)
  have HB8 : Hid (Below w.heap.size w w99) := hid (by rw [hw]; exact put5_bel HB.out LO6.out)
  have HW8 := hid hw
  clear hw
  go_wp2
  rw [← HW8.out]
  clear f0 f1 f2 f3 f4
  clear p0 p1 p2 p3 p4
  have e0 := D8.out.cell 0
  have e1 := D8.out.cell 1
  have e2 := D8.out.cell 2
  have e3 := D8.out.cell 3
  have e4 := D8.out.cell 4
  exact bodyPost_ret (v := .tuple #[.agg #[.int .i64 0, .int .i64 0, .int .i64 0, .slice none 0 0, .slice none 0 0], .slice none 0 0, .bool false]) (by simp [results, Tryz.results5, go_sem, e0, e1, e2, e3, e4]) rfl ⟨rfl, HB8.out⟩
 case neg =>
  have HG := hid hg
  clear hno hg
  by_cases hf : FewOk N L R
  case neg =>
   have hfe : few N L R m = -1 := few_neg hf
   clear hf
   go_enter Tryz.func5, Tryz.ntmps5
   go_upto_region 1 with (fail)
   rw [← HW1.out, ← HKC.out, ← HK6.out, ← HW2.out]
   have n0 := DC.out.cell 0
   have n1 := DC.out.cell 1
   have n2 := DC.out.cell 2
   go_wp2_with fail
   refine (few_is SA.out).mono ?_; rintro e w3 ⟨rfl, b3⟩
   clear n0 n1 n2
   replace DC := hid (DC.out.on b3)
   replace D6 := hid (D6.out.on b3)
   replace SH := hid (SH.out.call b3)
   replace SA := hid (SA.out.call b3)
   replace HB := hid (Bl.call HB.out b3)
   clear b3
   have n0 := DC.out.cell 0
   have n1 := DC.out.cell 1
   have n2 := DC.out.cell 2
   go_wp2_with fail
   refine (tnew_is SH.out HR.out false ⟨fun q => absurd q HG.out, fun q => by cases q⟩).mono ?_; intro e w4 hpost
   clear n0 n1 n2
   unfold NewPost at hpost
   rw [if_neg (by decide)] at hpost
   obtain ⟨rfl, b4⟩ := hpost
   replace DC := hid (DC.out.on b4)
   replace D6 := hid (D6.out.on b4)
   replace SH := hid (SH.out.call b4)
   replace SA := hid (SA.out.call b4)
   replace HB := hid (Bl.call HB.out b4)
   have bz := bel_new w4 (.cells #[.int .i64 0, .int .i64 0, .int .i64 0, .slice none 0 0, .slice none 0 0] 28)
   obtain ⟨w5, hw5⟩ : ∃ W, W = w4.alloc (.cells #[.int .i64 0, .int .i64 0, .int .i64 0, .slice none 0 0, .slice none 0 0] 28) := ⟨_, rfl⟩
   obtain ⟨K10, hK10⟩ : ∃ K, K = w4.heap.size := ⟨_, rfl⟩
   have D10 : Hid (Blk w5 K10 28 [.int .i64 0, .int .i64 0, .int .i64 0, .slice none 0 0, .slice none 0 0]) := hid (by rw [hw5, hK10]; exact Blk.new _ _ _)
   rw [← hw5] at bz
   replace DC := hid (DC.out.on bz)
   replace D6 := hid (D6.out.on bz)
   replace SH := hid (SH.out.call bz)
   replace SA := hid (SA.out.call bz)
   replace HB := hid (Bl.call HB.out bz)
   have HW5 := hid hw5
   have HK10 := hid hK10
   clear bz b4 hw5 hK10
   go_upto_region 4 with (fail)
   rw [← HW5.out]
   have f0 := D6.out.frozen 0
   have f1 := D6.out.frozen 1
   have f2 := D6.out.frozen 2
   have f3 := D6.out.frozen 3
   have f4 := D6.out.frozen 4
   have p0 := D6.out.cell 0
   have p1 := D6.out.cell 1
   have p2 := D6.out.cell 2
   have p3 := D6.out.cell 3
   have p4 := D6.out.cell 4
   obtain ⟨w99, hw⟩ : ∃ z, z = (((((w5.setCell ⟨K6, 0, none⟩ (.int .i64 0)).setCell ⟨K6, 1, none⟩ (.int .i64 0)).setCell ⟨K6, 2, none⟩ (.int .i64 0)).setCell ⟨K6, 3, none⟩ (.slice none 0 0)).setCell ⟨K6, 4, none⟩ (.slice none 0 0)) := ⟨_, rfl⟩
   have D8 : Hid (Blk w99 K6 28 [.int .i64 0, .int .i64 0, .int .i64 0, .slice none 0 0, .slice none 0 0]) := hid (by rw [hw]; exact put5_blk D6.out)
   have HB8 : Hid (Below w.heap.size w w99) := hid (by rw [hw]; exact put5_bel HB.out LO6.out)
   have HW8 := hid hw
   clear hw
   go_wp2
   rw [← HW8.out]
   clear f0 f1 f2 f3 f4
   clear p0 p1 p2 p3 p4
   have e0 := D8.out.cell 0
   have e1 := D8.out.cell 1
   have e2 := D8.out.cell 2
   have e3 := D8.out.cell 3
   have e4 := D8.out.cell 4
   exact bodyPost_ret (v := .tuple #[.agg #[.int .i64 0, .int .i64 0, .int .i64 0, .slice none 0 0, .slice none 0 0], .slice none 0 0, .bool false]) (by simp [results, Tryz.results5, go_sem, e0, e1, e2, e3, e4]) rfl ⟨rfl, HB8.out⟩
  case pos =>
   have hfe : few N L R m = ((min m 30 : Nat) : Int) := few_pos hf
   obtain ⟨nk, hnk⟩ : ∃ k, k = min m 30 := ⟨_, rfl⟩
   rw [← hnk] at hfe
   have hnk0 : ¬ (nk : Int) < 0 := by omega
   clear hf hnk
   go_enter Tryz.func5, Tryz.ntmps5
   go_upto_region 1 with (fail)
   rw [← HW1.out, ← HKC.out, ← HK6.out, ← HW2.out]
   have n0 := DC.out.cell 0
   have n1 := DC.out.cell 1
   have n2 := DC.out.cell 2
   go_wp2_with fail
   refine (few_is SA.out).mono ?_; rintro e w3 ⟨rfl, b3⟩
   clear n0 n1 n2
   replace DC := hid (DC.out.on b3)
   replace D6 := hid (D6.out.on b3)
   replace SH := hid (SH.out.call b3)
   replace SA := hid (SA.out.call b3)
   replace HB := hid (Bl.call HB.out b3)
   clear b3
   have n0 := DC.out.cell 0
   have n1 := DC.out.cell 1
   have n2 := DC.out.cell 2
   go_wp2_with fail
   refine (tnew_is SH.out HR.out false ⟨fun q => absurd q HG.out, fun q => by cases q⟩).mono ?_; intro e w4 hpost
   clear n0 n1 n2
   unfold NewPost at hpost
   rw [if_neg (by decide)] at hpost
   obtain ⟨rfl, b4⟩ := hpost
   replace DC := hid (DC.out.on b4)
   replace D6 := hid (D6.out.on b4)
   replace SH := hid (SH.out.call b4)
   replace SA := hid (SA.out.call b4)
   replace HB := hid (Bl.call HB.out b4)
   have bz := bel_new w4 (.cells #[.int .i64 0, .int .i64 0, .int .i64 0, .slice none 0 0, .slice none 0 0] 28)
   obtain ⟨w5, hw5⟩ : ∃ W, W = w4.alloc (.cells #[.int .i64 0, .int .i64 0, .int .i64 0, .slice none 0 0, .slice none 0 0] 28) := ⟨_, rfl⟩
   obtain ⟨K10, hK10⟩ : ∃ K, K = w4.heap.size := ⟨_, rfl⟩
   have D10 : Hid (Blk w5 K10 28 [.int .i64 0, .int .i64 0, .int .i64 0, .slice none 0 0, .slice none 0 0]) := hid (by rw [hw5, hK10]; exact Blk.new _ _ _)
   rw [← hw5] at bz
   replace DC := hid (DC.out.on bz)
   replace D6 := hid (D6.out.on bz)
   replace SH := hid (SH.out.call bz)
   replace SA := hid (SA.out.call bz)
   replace HB := hid (Bl.call HB.out bz)
   have HW5 := hid hw5
   have HK10 := hid hK10
   clear bz b4 hw5 hK10
   go_upto_region 4 with (fail)
   rw [← HW5.out]
   have f0 := D6.out.frozen 0
   have f1 := D6.out.frozen 1
   have f2 := D6.out.frozen 2
   have f3 := D6.out.frozen 3
   have f4 := D6.out.frozen 4
   have p0 := D6.out.cell 0
   have p1 := D6.out.cell 1
   have p2 := D6.out.cell 2
   have p3 := D6.out.cell 3
   have p4 := D6.out.cell 4
   obtain ⟨w99, hw⟩ : ∃ z, z = (((((w5.setCell ⟨K6, 0, none⟩ (.int .i64 0)).setCell ⟨K6, 1, none⟩ (.int .i64 0)).setCell ⟨K6, 2, none⟩ (.int .i64 0)).setCell ⟨K6, 3, none⟩ (.slice none 0 0)).setCell ⟨K6, 4, none⟩ (.slice none 0 0)) := ⟨_, rfl⟩
   have D8 : Hid (Blk w99 K6 28 [.int .i64 0, .int .i64 0, .int .i64 0, .slice none 0 0, .slice none 0 0]) := hid (by rw [hw]; exact put5_blk D6.out)
   have HB8 : Hid (Below w.heap.size w w99) := hid (by rw [hw]; exact put5_bel HB.out LO6.out)
   have HW8 := hid hw
   clear hw
   go_wp2
   rw [← HW8.out]
   clear f0 f1 f2 f3 f4
   clear p0 p1 p2 p3 p4
   have e0 := D8.out.cell 0
   have e1 := D8.out.cell 1
   have e2 := D8.out.cell 2
   have e3 := D8.out.cell 3
   have e4 := D8.out.cell 4
   exact bodyPost_ret (v := .tuple #[.agg #[.int .i64 0, .int .i64 0, .int .i64 0, .slice none 0 0, .slice none 0 0], .slice none 0 0, .bool false]) (by simp [results, Tryz.results5, go_sem, e0, e1, e2, e3, e4]) rfl ⟨rfl, HB8.out⟩
theorem off_nil (K : Nat) : Off K (.slice none 0 0) := by
 intro b o n c h _
 injection h with h1
 cases h1
theorem take30 {α : Type} (l : List α) {m : Nat} (h : l.length = m) : l.take 30 = l.take (min m 30) := by
 rcases Nat.le_total m 30 with h2 | h2
 · rw [Nat.min_eq_left h2, List.take_of_length_le (by omega), List.take_of_length_le (by omega)]
 · rw [Nat.min_eq_right h2]
theorem few_gp {n L R : Nat} {hs : List (Nat × Nat)} (h : GP n L R hs []) (m : Nat) : few n L R m = ((min m 30 : Nat) : Int) := by
 have h1 := h.n1
 have h2 := h.n2
 have h3 := h.l1
 have h4 := h.l2
 have h5 := h.r1
 have h6 := h.r2
 exact few_pos ⟨⟨by omega, by omega⟩, ⟨by omega, by omega⟩, by omega, by omega⟩
set_option maxHeartbeats 32000000 in
set_option maxRecDepth 100000 in
theorem behind_yes {n L R : Nat} {vh va : Value} {m : Nat} {hs : List (Nat × Nat)} {acts : List (Bool × Int × Int)} {w : World} (h1 : Sl w w.heap.size 2 vh hs.length (hcs hs)) (hr : hs.length ≤ 8796093022208) (h2 : Sl w w.heap.size 3 va m (atc acts)) (hp0 : GP n L R hs []) :
  Calls Tryz.prog 5 #[.agg #[.int .i64 (n : Int), .int .i64 (L : Int), .int .i64 (R : Int)], vh, va] w (BhPost n L R hs (some (actsF n L (Tp.Sof hs R (lvl n) L) (acts.take 30))) w) := by
 have SH := hid h1
 have SA := hid h2
 have SA0 := hid h2
 have HR := hid hr
 obtain ⟨nh, hnh⟩ : ∃ k, k = hs.length := ⟨_, rfl⟩
 obtain ⟨A1, c1, hv1, _, _, _, _⟩ := id h1
 obtain ⟨A2, c2, hv2, hmc, hcm, _, _⟩ := id h2
 subst hv1 hv2
 clear hnh
 obtain ⟨w1, hw1⟩ : ∃ W, W = w.alloc (.cells #[.int .i64 (n : Int), .int .i64 (L : Int), .int .i64 (R : Int)] 23) := ⟨_, rfl⟩
 obtain ⟨w2, hw2⟩ : ∃ W, W = w1.alloc (.cells #[.int .i64 0, .int .i64 0, .int .i64 0, .slice none 0 0, .slice none 0 0] 28) := ⟨_, rfl⟩
 obtain ⟨KC, hKC⟩ : ∃ K, K = w.heap.size := ⟨_, rfl⟩
 obtain ⟨K6, hK6⟩ : ∃ K, K = KC + 1 := ⟨_, rfl⟩
 have hsz1 : w1.heap.size = KC + 1 := by rw [hw1, hKC]; simp
 have DC : Hid (Blk w2 KC 23 [.int .i64 (n : Int), .int .i64 (L : Int), .int .i64 (R : Int)]) := hid (by rw [hw2, hw1, hKC]; exact (Blk.new _ _ _).alloc _)
 have D6 : Hid (Blk w2 K6 28 [.int .i64 0, .int .i64 0, .int .i64 0, .slice none 0 0, .slice none 0 0]) := hid (by rw [hw2, hK6, ← hsz1]; exact Blk.new _ _ _)
 have HB : Hid (Below w.heap.size w w2) := hid (by rw [hw2, hw1]; exact Bl.new (bel_new _ _) _)
 replace SH : Hid (Sl w2 w2.heap.size 2 (.slice A1 hs.length c1) hs.length (hcs hs)) := hid (by rw [hw2, hw1]; exact (SH.out.new _).new _)
 replace SA : Hid (Sl w2 w2.heap.size 3 (.slice A2 m c2) m (atc acts)) := hid (by rw [hw2, hw1]; exact (SA.out.new _).new _)
 have LO6 : Hid (w.heap.size ≤ K6) := hid (by omega)
 have LOC : Hid (w.heap.size ≤ KC) := hid (by omega)
 have HW1 := hid hw1
 have HW2 := hid hw2
 have HKC := hid hKC
 have HK6 := hid hK6
 clear hw1 hw2 hKC hK6 hsz1 hr h1 h2
 obtain ⟨nk, hnk⟩ : ∃ k, k = min m 30 := ⟨_, rfl⟩
 have hfe : few n L R m = (nk : Int) := by rw [hnk]; exact few_gp hp0 m
 have HG : Hid (GR n L R (hz hs) []) := hid hp0.gr
 have hnk0 : ¬ (nk : Int) < 0 := by omega
 have hnk30 : nk ≤ 30 := by omega
 have hnkm : nk ≤ m := by omega
 have hnkc : (nk : Int) ≤ (c2 : Int) := by omega
 have hlm : acts.length = m := by have := SA.out.len; rw [len_atc] at this; omega
 have HTK : Hid (acts.take 30 = acts.take nk) := hid (by rw [hnk]; exact take30 _ hlm)
 have HLA : Hid ((acts.take nk).length = nk) := hid (by rw [List.length_take]; omega)
 obtain ⟨S, hS⟩ : ∃ S, S = Tp.Sof hs R (lvl n) L := ⟨_, rfl⟩
 have HSO : Hid (Tp.SOk S) := hid (by rw [hS]; exact Tp.Sof_ok _ _ _ _)
 have RI : Hid (∀ {w : World} {vh ve : Value} {es : List (Int × Int × Int)} (u v : Int), GM w vh ve hs es → GP n L R hs es → es.length ≤ 999 → Calls Tryz.prog 16 #[grV n L R vh ve, .int .i64 u, .int .i64 v] w (ActPost n L R vh ve es (Tp.insF n L S es u v) w)) := hid (fun u v h1 h2 h3 => by rw [hS]; exact tInsert_ok h1 h2 h3 u v)
 have RD : Hid (∀ {w : World} {vh ve : Value} {es : List (Int × Int × Int)} (u v : Int), GM w vh ve hs es → GP n L R hs es → es.length ≤ 999 → Calls Tryz.prog 14 #[grV n L R vh ve, .int .i64 u, .int .i64 v] w (ActPost n L R vh ve es (Tp.delF n L S es u v) w)) := hid (fun u v h1 h2 h3 => by rw [hS]; exact tDelete_ok h1 h2 h3 u v)
 rw [← hS]
 obtain ⟨at_, hat⟩ : ∃ l, l = acts.take nk := ⟨_, rfl⟩
 have HGP : Hid (∀ i, i ≤ nk → GP n L R hs (actsF n L S (at_.take i)) ∧ (actsF n L S (at_.take i)).length ≤ 30) := hid (fun i hi => by
  have hl : (at_.take i).length ≤ 30 := by rw [List.length_take, hat, List.length_take]; omega
  have := gp_acts hp0 HSO.out (at_.take i) (by omega)
  exact ⟨this.1, by omega⟩)
 have HNX : Hid (∀ i, (h : i < at_.length) → actsF n L S (at_.take (i + 1)) = actF n L S (actsF n L S (at_.take i)) at_[i]) := hid (fun i h => acts_next n L S h)
 have hslA := run_take_of Tacts A2 m c2 nk (by omega)
 have HAL : Hid (at_.length = nk) := hid (by rw [hat]; exact HLA.out)
 have HFIN : Hid (actsF n L S (acts.take 30) = actsF n L S (at_.take nk)) := hid (by rw [HTK.out, hat, List.take_take, Nat.min_self])
 have HTKA : Hid (∀ {w : World}, Sl w w.heap.size 3 (.slice A2 m c2) m (atc acts) → Sl w w.heap.size 3 (.slice (cutA A2 c2 0 3) nk c2) nk (atc at_)) := hid (fun h => by rw [hat, ← atc_take]; exact h.take hnkm)
 clear hp0 hnk hS hat hlm hmc hcm hnkm
 go_enter Tryz.func5, Tryz.ntmps5
 go_upto_region 1 with (fail)
 rw [← HW1.out, ← HKC.out, ← HK6.out, ← HW2.out]
 have n0 := DC.out.cell 0
 have n1 := DC.out.cell 1
 have n2 := DC.out.cell 2
 go_wp2_with fail
 refine (few_is SA.out).mono ?_; rintro e w3 ⟨rfl, b3⟩
 clear n0 n1 n2
 replace DC := hid (DC.out.on b3)
 replace D6 := hid (D6.out.on b3)
 replace SH := hid (SH.out.call b3)
 replace SA := hid (SA.out.call b3)
 replace HB := hid (Bl.call HB.out b3)
 clear b3
 have n0 := DC.out.cell 0
 have n1 := DC.out.cell 1
 have n2 := DC.out.cell 2
 go_wp2_with fail
 refine (tnew_is SH.out HR.out true ⟨fun _ => rfl, fun _ => HG.out⟩).mono ?_; intro e w4 hpost
 clear n0 n1 n2
 unfold NewPost at hpost
 rw [if_pos rfl] at hpost
 obtain ⟨An, cn, rfl, o4, b4⟩ := hpost
 have OFF6 : Hid (Off K6 (.slice An hs.length cn)) := hid (own_isOff o4 D6.out.lt)
 replace DC := hid (DC.out.on b4)
 replace D6 := hid (D6.out.on b4)
 replace SH := hid (SH.out.call b4)
 replace SA := hid (SA.out.call b4)
 replace HB := hid (Bl.call HB.out b4)
 have bz := bel_new w4 (.cells #[.int .i64 (n : Int), .int .i64 (L : Int), .int .i64 (R : Int), .slice An hs.length cn, .slice none 0 0] 28)
 obtain ⟨w5, hw5⟩ : ∃ W, W = w4.alloc (.cells #[.int .i64 (n : Int), .int .i64 (L : Int), .int .i64 (R : Int), .slice An hs.length cn, .slice none 0 0] 28) := ⟨_, rfl⟩
 obtain ⟨K10, hK10⟩ : ∃ K, K = w4.heap.size := ⟨_, rfl⟩
 have D10 : Hid (Blk w5 K10 28 [.int .i64 (n : Int), .int .i64 (L : Int), .int .i64 (R : Int), .slice An hs.length cn, .slice none 0 0]) := hid (by rw [hw5, hK10]; exact Blk.new _ _ _)
 rw [← hw5] at bz
 have SHn : Hid (Sl w4 w4.heap.size 2 (.slice An hs.length cn) hs.length (hcs hs)) := hid (Sl.of_own o4)
 have OFF10 : Hid (Off K10 (.slice An hs.length cn)) := hid (SHn.out.isOff (by omega))
 have NE610 : Hid (K6 ≠ K10) := hid (by have := D6.out.lt; omega)
 have NEC10 : Hid (KC ≠ K10) := hid (by have := DC.out.lt; omega)
 have LO10 : Hid (w.heap.size ≤ K10) := hid (by have := HB.out.size; omega)
 replace DC := hid (DC.out.on bz)
 replace D6 := hid (D6.out.on bz)
 replace SH := hid (SH.out.call bz)
 replace SA := hid (SA.out.call bz)
 replace SHn := hid (SHn.out.call bz)
 replace HB := hid (Bl.call HB.out bz)
 have HW5 := hid hw5
 have HK10 := hid hK10
 clear bz b4 hw5 hK10 o4
 have SA3 := hid (HTKA.out SA0.out)
 generalize cutA A2 c2 0 3 = P3 at *
 obtain ⟨A3, c3, hv3, _, _, _, hx3⟩ := id SA3.out
 injection hv3 with e1 e2 e3
 subst e1
 have HX3 := hid hx3
 clear hx3 e2 e3
 go_upto_region 5 with (fail)
 rw [← HW5.out, ← HK10.out]
 go_wp2_with fail
 go_loopw [12, 35] (fun ov iv wr => ∃ (i q k : Nat) (A : Option Addr) (c : Nat) (al : List (Int × Int × Int)), iv = .int .i64 (i : Int) ∧ i ≤ nk ∧ q ≤ i ∧ Hid ((actsF n L S (at_.take i)).length = k) ∧ Hid (Sl wr wr.heap.size 3 ov q (eds al)) ∧ Hid (Off K10 ov) ∧ Hid (Blk wr K10 28 [.int .i64 (n : Int), .int .i64 (L : Int), .int .i64 (R : Int), .slice An hs.length cn, .slice A k c]) ∧ Hid (Sl wr wr.heap.size 3 (.slice A k c) k (eds (actsF n L S (at_.take i)))) ∧ Hid (Sl wr wr.heap.size 2 (.slice An hs.length cn) hs.length (hcs hs)) ∧ Hid (Blk wr KC 23 [.int .i64 (n : Int), .int .i64 (L : Int), .int .i64 (R : Int)]) ∧ Hid (Blk wr K6 28 [.int .i64 0, .int .i64 0, .int .i64 0, .slice none 0 0, .slice none 0 0]) ∧ Hid (Off K6 (.slice A k c)) ∧ Hid (Off K10 (.slice A k c)) ∧ Hid (Below w.heap.size w wr)) (fun _ iv _ => nk - (intOf iv).toNat)
 case atStart => exact ⟨0, 0, 0, none, 0, [], rfl, Nat.zero_le _, Nat.le_refl _, hid rfl, hid (Sl.none_ _ _ _), hid (off_nil _), D10, hid (Sl.none_ _ _ _), SHn, DC, D6, hid (off_nil _), hid (off_nil _), HB⟩
 case round =>
  clear D10 DC D6 SHn SH SA HB
  obtain ⟨i, q, k, A, c, al, rfl, hi, hqi, HK, SL, OFL, D10, SE, SH, DC, D6, OFE6, OFE10, HBr⟩ := hrel
  by_cases hlt : i < nk
  case pos =>
   have j0 : (i : Int) < (nk : Int) := by omega
   have hil : i < at_.length := by rw [HAL.out]; exact hlt
   obtain ⟨b6, o6, rfl, hb6, hc6⟩ := HX3.out (by omega)
   obtain ⟨p0, p1, p2⟩ := atc_cell hc6 hil
   have q0 := (HBr.out.cell (p := ⟨b6, o6 + i * 3, none⟩) hb6).trans p0
   have q1 := (HBr.out.cell (p := ⟨b6, o6 + i * 3 + 1, none⟩) hb6).trans p1
   have q2 := (HBr.out.cell (p := ⟨b6, o6 + i * 3 + 2, none⟩) hb6).trans p2
   have HNXi := hid (HNX.out i hil)
   have HGPi := hid (HGP.out i (by omega)).1
   have HELi : Hid ((actsF n L S (at_.take i)).length ≤ 999) := hid (Nat.le_trans (HGP.out i (by omega)).2 (by decide))
   generalize at_[i] = act at q0 q1 q2 p0 p1 p2 HNXi
   obtain ⟨gone, u, v⟩ := act
   dsimp only at q0 q1 q2
   clear p0 p1 p2 hc6 hil
   obtain ⟨es, hes⟩ : ∃ es, es = actsF n L S (at_.take i) := ⟨_, rfl⟩
   rw [← hes] at HK SE HGPi HELi HNXi
   clear hes
   have bz := bel_new wr (.cells #[.bool gone, .int .i64 u, .int .i64 v] 52)
   obtain ⟨wA, hwA⟩ : ∃ W, W = wr.alloc (.cells #[.bool gone, .int .i64 u, .int .i64 v] 52) := ⟨_, rfl⟩
   obtain ⟨KA, hKA⟩ : ∃ K, K = wr.heap.size := ⟨_, rfl⟩
   have DA : Hid (Blk wA KA 52 [.bool gone, .int .i64 u, .int .i64 v]) := hid (by rw [hwA, hKA]; exact Blk.new _ _ _)
   rw [← hwA] at bz
   have NEA : Hid (KA ≠ K10) := hid (by have := D10.out.lt; omega)
   replace D10 := hid (D10.out.on bz)
   replace DC := hid (DC.out.on bz)
   replace D6 := hid (D6.out.on bz)
   replace SL := hid (SL.out.call bz)
   replace SE := hid (SE.out.call bz)
   replace SH := hid (SH.out.call bz)
   replace HBr := hid (Bl.call HBr.out bz)
   have HWA := hid hwA
   have HKA := hid hKA
   clear bz hwA hKA
   go_upto_region 9 with (fail)
   rw [← HWA.out, ← HKA.out]
   clear q0 q1 q2
   cases gone with
   | true =>
    have GMt : Hid (GM wA (.slice An hs.length cn) (.slice A k c) hs es) := hid ⟨SH.out, by rw [HK.out]; exact SE.out⟩
    have g0 := D10.out.cell 0
    have g1 := D10.out.cell 1
    have g2 := D10.out.cell 2
    have g3 := D10.out.cell 3
    have g4 := D10.out.cell 4
    have a0 := DA.out.cell 0
    have a1 := DA.out.cell 1
    have a2 := DA.out.cell 2
    go_wp2_with fail
    refine (RD.out u v GMt.out HGPi.out HELi.out).mono ?_; rintro e w7 ⟨v7, err7, rfl, _, s7, of7, b7⟩
    clear g0 g1 g2 g3 g4
    clear a0 a1 a2
    obtain ⟨k7, hk7⟩ : ∃ k, (Tp.delF n L S es u v).length = k := ⟨_, rfl⟩
    rw [hk7] at s7
    obtain ⟨A7, c7, hv7, _, _, _, _⟩ := id s7
    subst hv7
    have HK7 := hid hk7
    have K6L : K6 < wA.heap.size := D6.out.lt
    have K10L : K10 < wA.heap.size := D10.out.lt
    have OFE6' : Hid (Off K6 (.slice A7 k7 c7)) := hid (of7 _ K6L OFE6.out)
    have OFE10' : Hid (Off K10 (.slice A7 k7 c7)) := hid (of7 _ K10L OFE10.out)
    have S7 := hid s7
    replace D10 := hid (D10.out.on b7)
    replace DC := hid (DC.out.on b7)
    replace D6 := hid (D6.out.on b7)
    replace DA := hid (DA.out.on b7)
    replace SL := hid (SL.out.call b7)
    replace SH := hid (SH.out.call b7)
    replace HBr := hid (Bl.call HBr.out b7)
    clear s7 of7 b7 hk7 K6L K10L GMt SE OFE6 OFE10
    obtain ⟨w8, hw⟩ : ∃ z, z = (((((w7.setCell ⟨K10, 0, none⟩ (.int .i64 (n : Int))).setCell ⟨K10, 1, none⟩ (.int .i64 (L : Int))).setCell ⟨K10, 2, none⟩ (.int .i64 (R : Int))).setCell ⟨K10, 3, none⟩ (.slice An hs.length cn)).setCell ⟨K10, 4, none⟩ (.slice A7 k7 c7)) := ⟨_, rfl⟩
    have D10n : Hid (Blk w8 K10 28 [.int .i64 (n : Int), .int .i64 (L : Int), .int .i64 (R : Int), .slice An hs.length cn, .slice A7 k7 c7]) := hid (by rw [hw]; exact put5_blk D10.out)
    have DCn : Hid (Blk w8 KC 23 [.int .i64 (n : Int), .int .i64 (L : Int), .int .i64 (R : Int)]) := hid (by rw [hw]; exact put5_far DC.out NEC10.out)
    have D6n : Hid (Blk w8 K6 28 [.int .i64 0, .int .i64 0, .int .i64 0, .slice none 0 0, .slice none 0 0]) := hid (by rw [hw]; exact put5_far D6.out NE610.out)
    have DAn : Hid (Blk w8 KA 52 [.bool true, .int .i64 u, .int .i64 v]) := hid (by rw [hw]; exact put5_far DA.out NEA.out)
    have SLn : Hid (Sl w8 w8.heap.size 3 u12 q (eds al)) := hid (by rw [hw]; exact put5_sl SL.out OFL.out)
    have SHn : Hid (Sl w8 w8.heap.size 2 (.slice An hs.length cn) hs.length (hcs hs)) := hid (by rw [hw]; exact put5_sl SH.out OFF10.out)
    have SEn : Hid (Sl w8 w8.heap.size 3 (.slice A7 k7 c7) k7 (eds (Tp.delF n L S es u v))) := hid (by rw [hw]; exact put5_sl S7.out OFE10'.out)
    have HBn : Hid (Below w.heap.size w w8) := hid (by rw [hw]; exact put5_bel HBr.out LO10.out)
    have HW8 := hid hw
    have f0 := D10.out.frozen 0
    have f1 := D10.out.frozen 1
    have f2 := D10.out.frozen 2
    have f3 := D10.out.frozen 3
    have f4 := D10.out.frozen 4
    have p0 := D10.out.cell 0
    have p1 := D10.out.cell 1
    have p2 := D10.out.cell 2
    have p3 := D10.out.cell 3
    have p4 := D10.out.cell 4
    clear hw D6 DC DA SL SH S7 HBr
    go_upto_region 11 with (fail)
    rw [← HW8.out]
    clear f0 f1 f2 f3 f4
    clear p0 p1 p2 p3 p4
    clear D10
    have n0 := DCn.out.cell 0
    have a1 := DAn.out.cell 1
    have a2 := DAn.out.cell 2
    go_wp2_with fail
    refine (rremoveE_any (n := (n : Int)) (u := u) (v := v) SLn.out (by omega)).mono ?_; rintro e w9 ⟨v9, err9, q9, l9, rfl, hq9, s9, of9, b9⟩
    clear n0 a1 a2
    have OFL9 : Hid (Off K10 v9) := hid (of9 _ D10n.out.lt OFL.out)
    have SL9 := hid s9
    replace D10n := hid (D10n.out.on b9)
    replace DCn := hid (DCn.out.on b9)
    replace D6n := hid (D6n.out.on b9)
    replace SEn := hid (SEn.out.call b9)
    replace SHn := hid (SHn.out.call b9)
    replace HBn := hid (Bl.call HBn.out b9)
    have HEE : Hid (actsF n L S (at_.take (i + 1)) = Tp.delF n L S es u v) := hid HNXi.out
    rw [← HEE.out] at SEn HK7
    clear s9 of9 b9 SLn DAn
    go_wp2_with fail
    go_roundw
    case rel => exact ⟨i + 1, q9, k7, A7, c7, l9, by go_num, by omega, by omega, HK7, SL9, OFL9, D10n, SEn, SHn, DCn, D6n, OFE6', OFE10', HBn⟩
    case measure => simp [intOf]; omega
   | false =>
    have GMt : Hid (GM wA (.slice An hs.length cn) (.slice A k c) hs es) := hid ⟨SH.out, by rw [HK.out]; exact SE.out⟩
    have g0 := D10.out.cell 0
    have g1 := D10.out.cell 1
    have g2 := D10.out.cell 2
    have g3 := D10.out.cell 3
    have g4 := D10.out.cell 4
    have a0 := DA.out.cell 0
    have a1 := DA.out.cell 1
    have a2 := DA.out.cell 2
    go_wp2_with fail
    refine (RI.out u v GMt.out HGPi.out HELi.out).mono ?_; rintro e w7 ⟨v7, err7, rfl, _, s7, of7, b7⟩
    clear g0 g1 g2 g3 g4
    clear a0 a1 a2
    obtain ⟨k7, hk7⟩ : ∃ k, (Tp.insF n L S es u v).length = k := ⟨_, rfl⟩
    rw [hk7] at s7
    obtain ⟨A7, c7, hv7, _, _, _, _⟩ := id s7
    subst hv7
    have HK7 := hid hk7
    have K6L : K6 < wA.heap.size := D6.out.lt
    have K10L : K10 < wA.heap.size := D10.out.lt
    have OFE6' : Hid (Off K6 (.slice A7 k7 c7)) := hid (of7 _ K6L OFE6.out)
    have OFE10' : Hid (Off K10 (.slice A7 k7 c7)) := hid (of7 _ K10L OFE10.out)
    have S7 := hid s7
    replace D10 := hid (D10.out.on b7)
    replace DC := hid (DC.out.on b7)
    replace D6 := hid (D6.out.on b7)
    replace DA := hid (DA.out.on b7)
    replace SL := hid (SL.out.call b7)
    replace SH := hid (SH.out.call b7)
    replace HBr := hid (Bl.call HBr.out b7)
    clear s7 of7 b7 hk7 K6L K10L GMt SE OFE6 OFE10
    obtain ⟨w8, hw⟩ : ∃ z, z = (((((w7.setCell ⟨K10, 0, none⟩ (.int .i64 (n : Int))).setCell ⟨K10, 1, none⟩ (.int .i64 (L : Int))).setCell ⟨K10, 2, none⟩ (.int .i64 (R : Int))).setCell ⟨K10, 3, none⟩ (.slice An hs.length cn)).setCell ⟨K10, 4, none⟩ (.slice A7 k7 c7)) := ⟨_, rfl⟩
    have D10n : Hid (Blk w8 K10 28 [.int .i64 (n : Int), .int .i64 (L : Int), .int .i64 (R : Int), .slice An hs.length cn, .slice A7 k7 c7]) := hid (by rw [hw]; exact put5_blk D10.out)
    have DCn : Hid (Blk w8 KC 23 [.int .i64 (n : Int), .int .i64 (L : Int), .int .i64 (R : Int)]) := hid (by rw [hw]; exact put5_far DC.out NEC10.out)
    have D6n : Hid (Blk w8 K6 28 [.int .i64 0, .int .i64 0, .int .i64 0, .slice none 0 0, .slice none 0 0]) := hid (by rw [hw]; exact put5_far D6.out NE610.out)
    have DAn : Hid (Blk w8 KA 52 [.bool false, .int .i64 u, .int .i64 v]) := hid (by rw [hw]; exact put5_far DA.out NEA.out)
    have SLn : Hid (Sl w8 w8.heap.size 3 u12 q (eds al)) := hid (by rw [hw]; exact put5_sl SL.out OFL.out)
    have SHn : Hid (Sl w8 w8.heap.size 2 (.slice An hs.length cn) hs.length (hcs hs)) := hid (by rw [hw]; exact put5_sl SH.out OFF10.out)
    have SEn : Hid (Sl w8 w8.heap.size 3 (.slice A7 k7 c7) k7 (eds (Tp.insF n L S es u v))) := hid (by rw [hw]; exact put5_sl S7.out OFE10'.out)
    have HBn : Hid (Below w.heap.size w w8) := hid (by rw [hw]; exact put5_bel HBr.out LO10.out)
    have HW8 := hid hw
    have f0 := D10.out.frozen 0
    have f1 := D10.out.frozen 1
    have f2 := D10.out.frozen 2
    have f3 := D10.out.frozen 3
    have f4 := D10.out.frozen 4
    have p0 := D10.out.cell 0
    have p1 := D10.out.cell 1
    have p2 := D10.out.cell 2
    have p3 := D10.out.cell 3
    have p4 := D10.out.cell 4
    clear hw D6 DC DA SL SH S7 HBr
    go_upto_region 13 with (fail)
    rw [← HW8.out]
    clear f0 f1 f2 f3 f4
    clear p0 p1 p2 p3 p4
    clear D10
    have n0 := DCn.out.cell 0
    have a1 := DAn.out.cell 1
    have a2 := DAn.out.cell 2
    go_wp2_with fail
    refine (raddE_any (n := (n : Int)) (u := u) (v := v) SLn.out (by omega)).mono ?_; rintro e w9 ⟨v9, err9, q9, l9, rfl, hq9, s9, of9, b9⟩
    clear n0 a1 a2
    have OFL9 : Hid (Off K10 v9) := hid (of9 _ D10n.out.lt OFL.out)
    have SL9 := hid s9
    replace D10n := hid (D10n.out.on b9)
    replace DCn := hid (DCn.out.on b9)
    replace D6n := hid (D6n.out.on b9)
    replace SEn := hid (SEn.out.call b9)
    replace SHn := hid (SHn.out.call b9)
    replace HBn := hid (Bl.call HBn.out b9)
    have HEE : Hid (actsF n L S (at_.take (i + 1)) = Tp.insF n L S es u v) := hid HNXi.out
    rw [← HEE.out] at SEn HK7
    clear s9 of9 b9 SLn DAn
    go_wp2_with fail
    go_roundw
    case rel => exact ⟨i + 1, q9, k7, A7, c7, l9, by go_num, by omega, by omega, HK7, SL9, OFL9, D10n, SEn, SHn, DCn, D6n, OFE6', OFE10', HBn⟩
    case measure => simp [intOf]; omega
  case neg =>
   have j0 : ¬ (i : Int) < (nk : Int) := by omega
   have hie : i = nk := by omega
   have HES : Hid (actsF n L S (acts.take 30) = actsF n L S (at_.take i)) := hid (by rw [hie]; exact HFIN.out)
   clear hie
   have g0 := D10.out.cell 0
   have g1 := D10.out.cell 1
   have g2 := D10.out.cell 2
   have g3 := D10.out.cell 3
   have g4 := D10.out.cell 4
   have f0 := D6.out.frozen 0
   have f1 := D6.out.frozen 1
   have f2 := D6.out.frozen 2
   have f3 := D6.out.frozen 3
   have f4 := D6.out.frozen 4
   have p0 := D6.out.cell 0
   have p1 := D6.out.cell 1
   have p2 := D6.out.cell 2
   have p3 := D6.out.cell 3
   have p4 := D6.out.cell 4
   obtain ⟨w99, hw⟩ : ∃ z, z = (((((wr.setCell ⟨K6, 0, none⟩ (.int .i64 (n : Int))).setCell ⟨K6, 1, none⟩ (.int .i64 (L : Int))).setCell ⟨K6, 2, none⟩ (.int .i64 (R : Int))).setCell ⟨K6, 3, none⟩ (.slice An hs.length cn)).setCell ⟨K6, 4, none⟩ (.slice A k c)) := ⟨_, rfl⟩
   have D8 : Hid (Blk w99 K6 28 [.int .i64 (n : Int), .int .i64 (L : Int), .int .i64 (R : Int), .slice An hs.length cn, .slice A k c]) := hid (by rw [hw]; exact put5_blk D6.out)
   have HB8 : Hid (Below w.heap.size w w99) := hid (by rw [hw]; exact put5_bel HBr.out LO6.out)
   have GM8 : Hid (GM w99 (.slice An hs.length cn) (.slice A k c) hs (actsF n L S (at_.take i))) := hid ⟨by rw [hw]; exact put5_sl SH.out OFF6.out, by rw [HK.out, hw]; exact put5_sl SE.out OFE6.out⟩
   have HW8 := hid hw
   clear hw
   go_wp2
   rw [← HW8.out]
   clear g0 g1 g2 g3 g4
   clear f0 f1 f2 f3 f4
   clear p0 p1 p2 p3 p4
   have e0 := D8.out.cell 0
   have e1 := D8.out.cell 1
   have e2 := D8.out.cell 2
   have e3 := D8.out.cell 3
   have e4 := D8.out.cell 4
   exact bodyPost_ret (v := .tuple #[.agg #[.int .i64 (n : Int), .int .i64 (L : Int), .int .i64 (R : Int), .slice An hs.length cn, .slice A k c], u12, .bool true]) (by simp [results, Tryz.results5, go_sem, e0, e1, e2, e3, e4]) rfl ⟨_, _, _, rfl, by rw [HES.out]; exact GM8.out, HB8.out⟩
end Go.Proofs.YtahodfikhocobaaGreatDoor
namespace Go.Proofs.YtahodfikhocobaaGreatDoor
open Go.ChangeShapes Go.WideShapes Go.ChangeAt Go.RowKit Go.Deep
set_option linter.unusedVariables false
set_option maxRecDepth 100000
section
variable {H : Type} {enc : TypeId × Value → H} {w : World} {spare : Nat → Bool} {held : Bool}
theorem tfields2 {t : TypeId} {n : Nat} {cs : List Value} {y : DataW H × List MemPlace} {f0 f1 : Field} (hs : Tryz.prog.underlying t = some (.struct #[f0, f1])) (hC : Tryz.prog.cellsOf t = 2)
  (o : f0.offset = 0 ∧ f1.offset = 1) (c : Tryz.prog.cellsOf f0.type = 1 ∧ Tryz.prog.cellsOf f1.type = 1) (h : DataW.trod enc Tryz.prog w 0 spare held n t cs = some y) :
  ∃ v0 v1 n' y0 y1, cs = [v0, v1] ∧ DataW.trod enc Tryz.prog w 0 spare held n' f0.type [v0] = some y0 ∧ DataW.trod enc Tryz.prog w 0 spare held n' f1.type [v1] = some y1 := by
 obtain ⟨ys, n', hn', hy, hlen, hyl, hf⟩ := DataW.trod_struct hs h
 rw [hC] at hlen
 match cs, hlen with
 | [v0, v1], _ =>
  match ys, hyl with
  | [y0, y1], _ =>
   refine ⟨v0, v1, n', y0, y1, rfl, ?_, ?_⟩
   · simpa [o.1, c.1] using hf 0 f0 rfl
   · simpa [o.2, c.2] using hf 1 f1 rfl
theorem open_thcs {v : Value} {d : DataW H} {p : List MemPlace} {r : Reach} {b : Nat} (hv : Value.okWide Tryz.prog w r b 24 v) (h : DataW.Trod enc Tryz.prog w 0 spare held 24 v d p) :
  ∃ (n : Nat) (l : List (Nat × Nat)), Sl w w.heap.size 2 v n (hcs l) ∧ ∀ h ∈ l, h.1 < 18446744073709551616 ∧ h.2 < 18446744073709551616 := by
 obtain ⟨A, len, cap, fuel, rfl, hf⟩ := slice_shape Tryz.underlying24 hv h
 obtain ⟨D, hs, hD⟩ := sl_of_slice (C := 2) Tryz.underlying24 (by kernel_rfl) (by omega) hf
 obtain ⟨l, h1, h2, h3⟩ := gather (D := D) (f := fun h : Nat × Nat => [.int .u64 (h.1 : Int), .int .u64 (h.2 : Int)]) (good := fun h => h.1 < 18446744073709551616 ∧ h.2 < 18446744073709551616) (n := len) fun i hi => by
  obtain ⟨_, n, y, hy⟩ := hD i hi
  obtain ⟨v0, v1, n', y0, y1, hc, t0, t1⟩ := tfields2 Tryz.underlying42 (by kernel_rfl) ⟨rfl, rfl⟩ ⟨by kernel_rfl, by kernel_rfl⟩ hy
  obtain ⟨a0, e0, _, w0⟩ := DataW.trod_int Tryz.underlying40 t0
  obtain ⟨a1, e1, _, w1⟩ := DataW.trod_int Tryz.underlying40 t1
  simp at e0 e1
  subst e0 e1
  have k0 := wf_u64 w0
  have k1 := wf_u64 w1
  obtain ⟨a0, rfl⟩ := Int.eq_ofNat_of_zero_le k0.1
  obtain ⟨a1, rfl⟩ := Int.eq_ofNat_of_zero_le k1.1
  exact ⟨(a0, a1), hc, by constructor <;> simp <;> omega⟩
 exact ⟨len, l, by rw [h2] at hs; exact hs, h3⟩
theorem array3 {cs : Array Value} (h : cs.size = 3) : ∃ a b c, cs = #[a, b, c] := by
 obtain ⟨l⟩ := cs
 match l, h with
 | [a, b, c], _ => exact ⟨a, b, c, rfl⟩
theorem open_cfg {v : Value} {d : DataW H} {p : List MemPlace} {r : Reach} {b : Nat} (hv : Value.okWide Tryz.prog w r b 23 v) (h : DataW.Trod enc Tryz.prog w 0 spare held 23 v d p) :
  ∃ (N L R : Int), v = .agg #[.int .i64 N, .int .i64 L, .int .i64 R] ∧ (wfI N ∧ wfI L ∧ wfI R) := by
 obtain ⟨cs, rfl, hsz⟩ := okWide_struct Tryz.underlying23 hv
 have hC : Tryz.prog.cellsOf 23 = 3 := by kernel_rfl
 obtain ⟨a, b, c, rfl⟩ := array3 (hsz.trans hC)
 obtain ⟨fuel, hf⟩ := h
 obtain ⟨v0, v1, v2, n', z0, z1, z2, hc, t0, t1, t2⟩ := fields3 Tryz.underlying23 (by kernel_rfl) ⟨rfl, rfl, rfl⟩ ⟨by kernel_rfl, by kernel_rfl, by kernel_rfl⟩ hf
 simp [Value.cells] at hc
 obtain ⟨rfl, rfl, rfl⟩ := hc
 obtain ⟨N, e0, _, w0⟩ := DataW.trod_int Tryz.underlying3 t0
 obtain ⟨L, e1, _, w1⟩ := DataW.trod_int Tryz.underlying3 t1
 obtain ⟨R, e2, _, w2⟩ := DataW.trod_int Tryz.underlying3 t2
 simp at e0 e1 e2
 subst e0 e1 e2
 exact ⟨N, L, R, rfl, wfI_of w0, wfI_of w1, wfI_of w2⟩
theorem open_tacts {v : Value} {d : DataW H} {p : List MemPlace} {r : Reach} {b : Nat} (hv : Value.okWide Tryz.prog w r b 25 v) (h : DataW.Trod enc Tryz.prog w 0 spare held 25 v d p) :
  ∃ (n : Nat) (l : List (Bool × Int × Int)), Sl w w.heap.size 3 v n (atc l) := by
 obtain ⟨A, len, cap, fuel, rfl, hf⟩ := slice_shape Tryz.underlying25 hv h
 obtain ⟨D, hs, hD⟩ := sl_of_slice (C := 3) Tryz.underlying25 (by kernel_rfl) (by omega) hf
 obtain ⟨l, h1, h2, h3⟩ := gather (D := D) (f := fun e : Bool × Int × Int => [.bool e.1, .int .i64 e.2.1, .int .i64 e.2.2]) (good := fun _ => True) (n := len) fun i hi => by
  obtain ⟨_, n, y, hy⟩ := hD i hi
  obtain ⟨v0, v1, v2, n', y0, y1, y2, hc, t0, t1, t2⟩ := fields3 Tryz.underlying52 (by kernel_rfl) ⟨rfl, rfl, rfl⟩ ⟨by kernel_rfl, by kernel_rfl, by kernel_rfl⟩ hy
  obtain ⟨a0, e0, _⟩ := DataW.trod_bool Tryz.underlying4 t0
  obtain ⟨a1, e1, _, w1⟩ := DataW.trod_int Tryz.underlying3 t1
  obtain ⟨a2, e2, _, w2⟩ := DataW.trod_int Tryz.underlying3 t2
  simp at e0 e1 e2
  subst e0 e1 e2
  exact ⟨(a0, a1, a2), hc, trivial⟩
 exact ⟨len, l, by rw [h2] at hs; exact hs⟩
end
end Go.Proofs.YtahodfikhocobaaGreatDoor
namespace Tp
open Pt
set_option linter.unusedVariables false
def actP (n L : Nat) (S : Nat → List PE → Option Nat) (es : List Ed) (a : Bool × Int × Int) : List Ed := if a.1 then delF n L S es a.2.1 a.2.2 else insF n L S es a.2.1 a.2.2
theorem inv_acts {n L : Nat} (hn : 0 < n) (hL : L ≤ 16) {S : Nat → List PE → Option Nat} (hS : SOk S) (hSL : ∀ t ps, L ≤ t → S t ps = none) : ∀ l : List (Bool × Int × Int), Gd n L (l.foldl (actP n L S) []) ∧ InvG n L S (l.foldl (actP n L S) []) := by
 refine snoc_ind ?_ ?_
 · exact ⟨gd_nil hn, inv_nil hn hS⟩
 ·
  intro l a ih
  rw [List.foldl_append]
  show Gd n L (actP n L S (l.foldl (actP n L S) []) a) ∧ InvG n L S (actP n L S (l.foldl (actP n L S) []) a)
  unfold actP
  split
  · exact ⟨ih.1.dels hL hS _ _, inv_dels ih.1 hL hS hSL ih.2 _ _⟩
  · exact ⟨ih.1.ins hL hS _ _, inv_ins ih.1 hL hS hSL ih.2 _ _⟩
theorem low_act {n L k : Nat} {S S2 : Nat → List PE → Option Nat} (hS : SOk S) (hS2 : SOk S2) (hL : L ≤ 16) (hk : k ≤ L) (hSS : ∀ t, t < k → S t = S2 t) {es es2 : List Ed} (h : Gd n L es) (h2 : Gd n L es2) (he : lowM k es = lowM k es2) (a : Bool × Int × Int) :
  lowM k (actP n L S es a) = lowM k (actP n L S2 es2 a) := by
 have hu : uv es = uv es2 := by rw [← uv_low (es := es) k, he, uv_low]
 unfold actP
 split
 ·
  unfold delF
  by_cases hc : InR n a.2.1 ∧ InR n a.2.2
  ·
   rw [if_pos hc, if_pos hc, hu]
   cases fiP (uv es2) a.2.1 a.2.2 with
   | none => exact he
   | some i =>
    exact mend_low hS hS2 (by omega) (by omega) hSS hc.1 hc.2 (h.del i) (h2.del i) (by rw [del_low, del_low, he]) L (Int.le_refl _)
  · rw [if_neg hc, if_neg hc]; exact he
 ·
  unfold insF
  rw [hu]
  by_cases hc : InR n a.2.1 ∧ InR n a.2.2 ∧ a.2.1 ≠ a.2.2 ∧ fiP (uv es2) a.2.1 a.2.2 = none
  ·
   rw [if_pos hc, if_pos hc]
   exact mend_low hS hS2 (by omega) (by omega) hSS hc.1 hc.2.1 (h.add hc.1 hc.2.1 hc.2.2.1 (by rw [hu]; exact hc.2.2.2) (by omega)) (h2.add hc.1 hc.2.1 hc.2.2.1 hc.2.2.2 (by omega)) (by rw [add_low, add_low, he]) L (Int.le_refl _)
  · rw [if_neg hc, if_neg hc]; exact he
theorem low_acts {n L k : Nat} (hn : 0 < n) {S S2 : Nat → List PE → Option Nat} (hS : SOk S) (hS2 : SOk S2) (hSL : ∀ t ps, L ≤ t → S t ps = none) (hSL2 : ∀ t ps, L ≤ t → S2 t ps = none) (hL : L ≤ 16) (hk : k ≤ L) (hSS : ∀ t, t < k → S t = S2 t) :
  ∀ l : List (Bool × Int × Int), lowM k (l.foldl (actP n L S) []) = lowM k (l.foldl (actP n L S2) []) := by
 refine snoc_ind rfl ?_
 intro l a ih
 rw [List.foldl_append, List.foldl_append]
 exact low_act hS hS2 hL hk hSS (inv_acts hn hL hS hSL l).1 (inv_acts hn hL hS2 hSL2 l).1 ih a
theorem low_tree {n L k : Nat} {es es2 : List Ed} (he : lowM k es = lowM k es2) {s : Int} (hs : s ≤ k) (v : Int) : treeL n es s v = treeL n es2 s v := by
 rw [← tree_low hs v, he, tree_low hs v]
theorem low_cut {k : Nat} {es es2 : List Ed} (he : lowM k es = lowM k es2) (c : List Int) : uv (cutL es c) = uv (cutL es2 c) := by
 have h1 := uv_low (es := cutL es c) (k : Int)
 have h2 := uv_low (es := cutL es2 c) (k : Int)
 rw [← h1, ← h2, ← cut_low, ← cut_low, he]
end Tp
namespace Go.Proofs.YtahodfikhocobaaGreatDoor
open Go.RowKit
set_option linter.unusedVariables false
set_option linter.unusedSimpArgs false
attribute [local go_sem ↓] Go.wp_at_zero Go.wp_at_succ
theorem hcs_set (l : List (Nat × Nat)) (j : Nat) (x y : Nat) : ((hcs l).set (j * 2) (.int .u64 (x : Int))).set (j * 2 + 1) (.int .u64 (y : Int)) = hcs (l.set j (x, y)) := by
 induction l generalizing j with
 | nil => simp [hcs]
 | cons a l ih =>
  have e : hcs (a :: l) = .int .u64 (a.1 : Int) :: .int .u64 (a.2 : Int) :: hcs l := rfl
  cases j with
  | zero => rfl
  | succ j =>
   rw [e, show (j + 1) * 2 = j * 2 + 1 + 1 by omega]
   simp only [List.set_cons_succ]
   rw [ih j]; rfl
theorem own_hput {w : World} {base g n c : Nat} {l : List (Nat × Nat)} (h : w.ownsRow base 42 2 (.slice (some ⟨g, 0, none⟩) n c) n (hcs l)) (j : Nat) (x y : Nat) :
  ((w.setCell ⟨g, j * 2, none⟩ (.int .u64 (x : Int))).setCell ⟨g, j * 2 + 1, none⟩ (.int .u64 (y : Int))).ownsRow base 42 2 (.slice (some ⟨g, 0, none⟩) n c) n (hcs (l.set j (x, y))) := by
 have := ((h.stored (j * 2) (.int .u64 (x : Int))).1.stored (j * 2 + 1) (.int .u64 (y : Int))).1
 rwa [hcs_set] at this
theorem own_hcells {w : World} {base g n c : Nat} {l : List (Nat × Nat)} (h : w.ownsRow base 42 2 (.slice (some ⟨g, 0, none⟩) n c) n (hcs l)) {j : Nat} (hj : j < l.length) :
  w.cell? ⟨g, j * 2, none⟩ = some (.int .u64 (l[j].1 : Int)) ∧ w.cell? ⟨g, j * 2 + 1, none⟩ = some (.int .u64 (l[j].2 : Int)) ∧ w.frozen? ⟨g, j * 2, none⟩ = false ∧ w.frozen? ⟨g, j * 2 + 1, none⟩ = false := by
 have hn : l.length = n := by have := h.1; rw [len_hcs] at this; omega
 have e := hcs_at l j hj
 exact ⟨by rw [h.cellAt (j * 2) (by omega)]; exact e.1, by rw [h.cellAt (j * 2 + 1) (by omega)]; exact e.2, h.frozenAt _, h.frozenAt _⟩
theorem exec_mid {t e : TypeId} {z : Value} {sz by_ : Nat} (hT : SlT t e z sz by_) {ρ : Operand → Value} {o : Oper} {x k k2 : Operand} (ho : o.op = .slice t x (some k) (some k2) none) {A : Option Addr} {n c lo hi : Nat} (hx : ρ x = .slice A n c) (hk : ρ k = .int .i64 (lo : Int)) (hk2 : ρ k2 = .int .i64 (hi : Int)) (h : lo ≤ hi) (h2 : hi ≤ c) (w : World) :
  (execOp ρ o).run Tryz.prog w = .ok (.value (.slice (cutA A c lo sz) (hi - lo) (c - lo))) w := by
 unfold execOp
 rw [ho]
 simp only [hx, hk, hk2, Option.map_some, Option.map_none, Sem.run_bind, run_sliceAt_slice (P := Tryz.prog) w t _ _ _ _ (und_of hT), run_mid_of hT A n c lo hi h h2 w, Result.andThen_ok, Sem.run_pure]
theorem step_appS {ops : Array Oper} {o : Oper} {a : Act} {Q : Exit → Act → World → Prop} {w : World} {K : Act → World → Prop} {E : Prop} (hgd : o.guard = none) (s x : Operand) {t e : TypeId} {z : Value} {sz by_ : Nat} (hT : SlT t e z sz by_) (hop : o.op = .call { callee := .builtin .append, args := #[s, x], argTypes := #[t, t] })
  {base : Nat} {v : Value} {n : Nat} {xs : List Value} (hs : a.eval s = v) (hown : w.ownsRow base e sz v n xs) {B : Nat} {src : Value} {m : Nat} {news : List Value} (hx : a.eval x = src) (hsl : Sl w B sz src m news)
  (h1 : ∀ u ∈ news, u.oneCell' = true) (hb : (n + m) * by_ ≤ 140737488355328) (hbase : base ≤ w.heap.size)
  (h : ∀ v' w', w'.ownsRow base e sz v' (n + m) (xs ++ news) → Below base w w' → K (a.put o.dst v') w') : if Region.wanted o (yielded ops a.tmps) = true then Oper.wp Tryz.prog o a w K Q else E := by
 have hw : Region.wanted o (yielded ops a.tmps) = true := by simp [Region.wanted, hgd]
 rw [if_pos hw]
 exact wp_app s x hT hop hs hown hx hsl h1 hb hbase h
theorem base_alloc' {w : World} {B : Nat} (h : B ≤ w.heap.size) (o : Obj) : B ≤ (w.alloc o).heap.size := by simp; omega
def md (h : Nat × Nat) : Nat × Nat := (h.1 % 2305843009213693951, h.2 % 2305843009213693951)
def mdK (i : Nat) (l : List (Nat × Nat)) : List (Nat × Nat) := (l.take i).map md ++ l.drop i
theorem mdK_zero (l : List (Nat × Nat)) : mdK 0 l = l := by simp [mdK]
theorem mdK_all (l : List (Nat × Nat)) : mdK l.length l = l.map md := by simp [mdK]
theorem mdK_len (i : Nat) (l : List (Nat × Nat)) : (mdK i l).length = l.length := by simp [mdK]; omega
theorem mdK_at {i : Nat} {l : List (Nat × Nat)} (h : i < l.length) : (mdK i l)[i]'(by rw [mdK_len]; exact h) = l[i] := by
 have h1 : (mdK i l)[i]? = some l[i] := by
  unfold mdK
  rw [List.getElem?_append_right (by simp; omega)]
  simp [List.getElem?_drop, Nat.min_eq_left (Nat.le_of_lt h), List.getElem?_eq_getElem h]
 rw [List.getElem?_eq_getElem (by rw [mdK_len]; exact h)] at h1
 exact Option.some.inj h1
theorem mdK_next {i : Nat} {l : List (Nat × Nat)} (h : i < l.length) : (mdK i l).set i (md l[i]) = mdK (i + 1) l := by
 apply List.ext_getElem?
 intro j
 unfold mdK
 have hm : min i l.length = i := Nat.min_eq_left (Nat.le_of_lt h)
 have hm1 : min (i + 1) l.length = i + 1 := Nat.min_eq_left h
 rw [List.getElem?_set]
 rcases Nat.lt_trichotomy i j with hij | hij | hij
 ·
  rw [if_neg (by omega), List.getElem?_append_right (by simp; omega), List.getElem?_append_right (by simp; omega)]
  simp only [List.length_map, List.length_take, hm, hm1, List.getElem?_drop]
  congr 1; omega
 ·
  subst hij
  rw [if_pos rfl, if_pos (by simp; omega), List.getElem?_append_left (by simp; omega)]
  simp [h]
 ·
  rw [if_neg (by omega), List.getElem?_append_left (by simp; omega), List.getElem?_append_left (by simp; omega)]
  simp [List.getElem?_take, hij, show j < i + 1 by omega]
def oth (a b : List (Nat × Nat)) (m : Nat) : List (Nat × Nat) := a.take m ++ (b.drop m).take (a.length - m)
theorem oth_len {a b : List (Nat × Nat)} {m : Nat} (h1 : m ≤ a.length) (h2 : a.length ≤ b.length) : (oth a b m).length = a.length := by
 unfold oth; simp; omega
theorem md_id {h : Nat × Nat} (hh : h.1 < 2305843009213693951 ∧ h.2 < 2305843009213693951) : md h = h := by
 unfold md; rw [Nat.mod_eq_of_lt hh.1, Nat.mod_eq_of_lt hh.2]
theorem oth_take {a b : List (Nat × Nat)} {m : Nat} (h1 : m ≤ a.length) (ha : ∀ h ∈ a, h.1 < 2305843009213693951 ∧ h.2 < 2305843009213693951) : ((oth a b m).map md).take m = a.take m := by
 unfold oth
 rw [← List.map_take, List.take_append_of_le_length (by simp; omega), List.take_take, Nat.min_self]
 have e : (a.take m).map md = (a.take m).map id := List.map_congr_left fun x hx => md_id (ha x (List.mem_of_mem_take hx))
 rw [e, List.map_id]
theorem md_lt (l : List (Nat × Nat)) : ∀ h ∈ l.map md, h.1 < 2305843009213693951 ∧ h.2 < 2305843009213693951 := by
 intro h hh
 obtain ⟨x, _, rfl⟩ := List.mem_map.1 hh
 exact ⟨Nat.mod_lt _ (by omega), Nat.mod_lt _ (by omega)⟩
set_option maxHeartbeats 4000000 in
set_option maxRecDepth 100000 in
theorem wsame {A B : Option Addr} {n c d : Nat} {p : List Nat} {w : World} (h1 : Sl w w.heap.size 1 (.slice A n c) n (us p)) (h2 : Sl w w.heap.size 1 (.slice B n d) n (us p)) : Calls Tryz.prog 10 #[.slice A n c, .slice B n d] w fun e w' => e = .returned (.bool true) ∧ Qt w w' := by
 have hl : p.length = n := by have := h1.len; rw [len_us] at this; omega
 have hmx := h1.max
 obtain ⟨_, _, he, _, _, _, hx⟩ := h1
 injection he with e1 e2 e3
 subst e1 e3
 obtain ⟨_, _, he, _, _, _, hx'⟩ := h2
 injection he with e1 e2 e3
 subst e1 e3
 have HX := hid hx
 have HX2 := hid hx'
 have HL := hid hl
 have hn : n ≤ 9223372036854775807 := by unfold maxLen at hmx; omega
 clear hx hx' hl hmx
 have e0 : ((n : Int) != (n : Int)) = false := by simp
 go_enter Tryz.func10, Tryz.ntmps10
 go_wp2
 go_loopw [13] (fun iv wr => ∃ k : Nat, k ≤ n ∧ iv = .int .i64 (k : Int) ∧ Qt w wr) (fun iv _ => n - (intOf iv).toNat)
 case atStart => exact ⟨0, by omega, rfl, Qt.refl _⟩
 case round =>
  obtain ⟨k, hk, rfl, hq⟩ := hrel
  by_cases hlt : k < n
  ·
   obtain ⟨b, o, rfl, hb, hc⟩ := HX.out (by omega)
   obtain ⟨b', o', rfl, hb', hc'⟩ := HX2.out (by omega)
   have g1 := (hq.cell ⟨b, o + k, none⟩).trans (us_cell hc (by have := HL.out; omega))
   have g2 := (hq.cell ⟨b', o' + k, none⟩).trans (us_cell hc' (by have := HL.out; omega))
   obtain ⟨x, hx⟩ : ∃ x : Nat, x = p.getD k 0 := ⟨_, rfl⟩
   rw [← hx] at g1 g2
   clear hx hc hc' hb hb'
   have i1 : (k : Int) < (n : Int) := by omega
   have i0 : (0 : Int) ≤ (k : Int) := by omega
   have e1 : ((x : Int) != (x : Int)) = false := by simp
   go_wp2_with fail
   go_quiet (fail)
   go_wp2
   go_roundw
   case rel => exact ⟨k + 1, by omega, by go_num, hq.drewN _⟩
   case measure => simp [intOf]; omega
  ·
   obtain rfl : k = n := by omega
   go_wp2
   go_ret
   exact ⟨rfl, hq⟩
end Go.Proofs.YtahodfikhocobaaGreatDoor
namespace Aw
set_option linter.unusedVariables false
structure LxS where
  ls : List (List ByteArray)
  l : List ByteArray
  st : Option Nat
def isL (c : Nat) : Bool := (decide (97 ≤ c) && decide (c ≤ 122)) || (decide (48 ≤ c) && decide (c ≤ 57))
def byt (s : ByteArray) (i : Nat) : Nat := if h : i < s.size then (s[i]'h).toNat else 0
def word (s : ByteArray) (x : LxS) (i : Nat) : List ByteArray := match x.st with
 | none => x.l
 | some a => x.l ++ [s.extract a i]
def step (s : ByteArray) (x : LxS) (i : Nat) : LxS :=
 if isL (byt s i) = true then ⟨x.ls, x.l, some (x.st.getD i)⟩
 else if byt s i = 10 then ⟨x.ls ++ [word s x i], [], none⟩
 else ⟨x.ls, word s x i, none⟩
def lex (s : ByteArray) : Nat → LxS
 | 0 => ⟨[], [], none⟩
 | n + 1 => step s (lex s n) n
def fin (s : ByteArray) : List (List ByteArray) := (lex s s.size).ls ++ [word s (lex s s.size) s.size]
def Plain (s : ByteArray) : Prop := ∀ i, i < s.size → isL (byt s i) = true ∨ byt s i = 10 ∨ byt s i = 32
theorem lex_st {s : ByteArray} : ∀ {n a : Nat}, (lex s n).st = some a → a < n := by
 intro n
 induction n with
 | zero => intro a h; cases h
 | succ n ih =>
  intro a h
  unfold lex step at h
  split at h
  ·
   dsimp only at h
   injection h with h
   cases hs : (lex s n).st with
   | none => rw [hs] at h; simp at h; omega
   | some b => rw [hs] at h; simp at h; have := ih hs; omega
  · split at h <;> cases h
theorem isL_iff {c : Nat} : isL c = true ↔ (97 ≤ c ∧ c ≤ 122) ∨ (48 ≤ c ∧ c ≤ 57) := by
 unfold isL; simp
theorem lex_len {s : ByteArray} : ∀ n, (lex s n).ls.length ≤ n ∧ (lex s n).l.length ≤ n := by
 intro n
 induction n with
 | zero => exact ⟨Nat.le_refl _, Nat.le_refl _⟩
 | succ n ih =>
  have hw : (word s (lex s n) n).length ≤ n + 1 := by
   unfold word
   split
   · omega
   · simp; omega
  unfold lex step
  split
  · dsimp only; omega
  · split <;> simp <;> omega
end Aw
namespace Go.Proofs.YtahodfikhocobaaGreatDoor
open Go.RowKit
set_option linter.unusedVariables false
set_option linter.unusedSimpArgs false
theorem islet_is {c : Nat} (h : c < 128) (b : Bool) (hb : Aw.isL c = b) (w : World) : Calls Tryz.prog 58 #[.int .i32 (c : Int)] w fun e w' => e = .returned (.bool b) ∧ w = w' := by
  have HB := hid hb
  have n1 : ¬ (945 : Int) ≤ (c : Int) := by omega
  clear hb
  by_cases c1 : (97 : Int) ≤ (c : Int) <;> by_cases c2 : (c : Int) ≤ 122 <;> by_cases c3 : (48 : Int) ≤ (c : Int) <;> by_cases c4 : (c : Int) ≤ 57
  all_goals first
    | omega
    | (go_enter Tryz.func58, Tryz.ntmps58
       go_wp2
       go_ret
       exact ⟨by rw [← HB.out]; first | (exact ret_bool (by symm; rw [Aw.isL_iff]; omega)) | (exact ret_bool (by symm; rw [Bool.eq_false_iff]; intro hh; rw [ne_eq.eq_1] at *; rw [Aw.isL_iff] at hh; omega)) | (exact ret_bool (by symm; cases hq : Aw.isL c with | false => rfl | true => rw [Aw.isL_iff] at hq; omega)), rfl⟩)
/-! Rows of texts. -/
def strs (l : List ByteArray) : List Value := l.map Value.string
theorem Tstrs : SlT 92 9 (.string ⟨#[]⟩) 1 16 := SlT.mk Tryz.underlying92 (by kernel_rfl) rfl (by decide) (by decide)
theorem Tlines : SlT 76 92 (.slice none 0 0) 1 24 := SlT.mk Tryz.underlying76 (by kernel_rfl) rfl (by decide) (by decide)
section
variable {ops : Array Oper} {rest : List Oper} {o : Oper} {a : Act} {Q : Exit → Act → World → Prop} {w : World}
theorem wl_app1G (hw : Region.wanted o (yielded ops a.tmps) = true) (s x : Operand) {t e : TypeId} {z : Value} {sz by_ : Nat} (hT : SlT t e z sz by_) (hop : o.op = .call { callee := .builtin .append, args := #[s, x], argTypes := #[t, t] })
  {base : Nat} {v : Value} {n : Nat} {xs : List Value} {news : List Value} {e' : TypeId} (hs : a.eval s = v) (hown : w.ownsRow base e sz v n xs) (hx : a.eval x = .slice (some ⟨w.heap.size, 0, none⟩) 1 1)
  (hl : news.length = sz) (h1 : ∀ u ∈ news, u.oneCell' = true) (hb : (n + 1) * by_ ≤ 140737488355328) (hbase : base ≤ w.heap.size)
  (h : ∀ v' w', w'.ownsRow base e sz v' (n + 1) (xs ++ news) → GGrw (w.alloc (.cells news.toArray e')) w' v v' → wpList Tryz.prog ops Q rest (a.put o.dst v') w') : wpList Tryz.prog ops Q (o :: rest) a (w.alloc (.cells news.toArray e')) := by
 obtain ⟨hu, ⟨i, hi, hz, hsz, hby⟩, hzs, h0, h0b⟩ := hT
 have h63 : n + 1 ≤ maxLen := by
  have : n + 1 ≤ (n + 1) * by_ := Nat.le_mul_of_pos_right _ h0b
  unfold maxLen; omega
 refine BigFrame.wpList_want hw fun K hK => ?_
 refine wp_append_lies _ s x t hop base e i z sz by_ hu hi hz hsz hby hzs h0 v n xs hs (hown.alloc _) ⟨w.heap.size, 0, none⟩ 1 1 news hx (by omega) (fun j u hu => ?_) h1 (by omega) h63 hb (by simp; omega) _ rfl ?_
 · rw [Addr.add_lit, Nat.zero_add, (Blk.new w e' news).cell]; exact hu
 ·
  intro g cap w' h2 h3 h4 h5
  refine hK _ _ (h _ w' h2 ⟨h3, ?_⟩)
  rcases h4 with h4 | h4
  · exact .inl (by rw [h4]; rfl)
  ·
   refine .inr fun g' hg => ?_
   have : g = g' := by simpa [Value.ownBlock] using hg
   omega
end
theorem own_hp {w : World} {base : Nat} {e : TypeId} {sz n : Nat} {v : Value} {xs : List Value} (h : w.ownsRow base e sz v n xs) : ∀ b, v.ownBlock = some b → base ≤ b ∧ ∃ cur, w.heap[b]? = some (.cells cur e (0, 0)) := by
 intro b hb
 rcases h.2 with ⟨rfl, _⟩ | ⟨g, cap, cur, rfl, hbg, hg, _⟩
 · cases hb
 · simp [Value.ownBlock] at hb; subst hb; exact ⟨hbg, cur, hg⟩
theorem own_apart {w : World} {base base' : Nat} {e e' : TypeId} {sz sz' n n' : Nat} {v v' : Value} {xs xs' : List Value} (h : w.ownsRow base e sz v n xs) (h' : w.ownsRow base' e' sz' v' n' xs') (hne : e ≠ e') : ∀ b, v.ownBlock = some b → v'.ownBlock ≠ some b := by
 intro b hb hb'
 obtain ⟨_, c1, h1⟩ := own_hp h b hb
 obtain ⟨_, c2, h2⟩ := own_hp h' b hb'
 rw [h1] at h2
 injection h2 with h2
 injection h2 with _ h2
 exact hne h2
theorem own_iter {w : World} {base : Nat} {e : TypeId} {sz n k p p' : Nat} {s : ByteArray} {v : Value} {xs : List Value} (h : w.ownsRow base e sz v n xs) (hk : w.heap[k]? = some (.stringIter s p)) : (w.iterAt k s p').ownsRow base e sz v n xs := by
 refine own_keep h fun b hb => Lib.iterAt_other _ _ _ _ _ ?_
 rintro rfl
 obtain ⟨_, c, hc⟩ := own_hp h b hb
 rw [hk] at hc; cases hc
theorem iter_grown {w w' : World} {base : Nat} {e : TypeId} {sz n k p : Nat} {s : ByteArray} {v v' : Value} {xs : List Value} (h : w.ownsRow base e sz v n xs) (hg : GGrw w w' v v') (hk : w.heap[k]? = some (.stringIter s p)) : w'.heap[k]? = some (.stringIter s p) := by
 refine (hg.1.block k (Array.getElem?_eq_some_iff.1 hk).1 fun hb => ?_).trans hk
 obtain ⟨_, c, hc⟩ := own_hp h k hb.symm
 rw [hk] at hc; cases hc
structure LinesM (base : Nat) (w : World) (vL vl : Value) (vs : List Value) (ls : List (List ByteArray)) (l : List ByteArray) : Prop where
  rows : w.ownsRow base 92 1 vL vs.length vs
  len : vs.length = ls.length
  each : ∀ j, (h : j < vs.length) → (h' : j < ls.length) → w.ownsRow base 9 1 vs[j] ls[j].length (strs ls[j]) ∧ (∀ b, vs[j].ownBlock = some b → vl.ownBlock ≠ some b)
  cur : w.ownsRow base 9 1 vl l.length (strs l)
theorem LinesM.nil (base : Nat) (w : World) : LinesM base w (.slice none 0 0) (.slice none 0 0) [] [] [] :=
 ⟨World.ownsRow_nil _ _ _ _, rfl, fun j h _ => absurd h (Nat.not_lt_zero _), World.ownsRow_nil _ _ _ _⟩
theorem LinesM.iter {base : Nat} {w : World} {vL vl : Value} {vs : List Value} {ls : List (List ByteArray)} {l : List ByteArray} (h : LinesM base w vL vl vs ls l) {k p p' : Nat} {s : ByteArray} (hk : w.heap[k]? = some (.stringIter s p)) : LinesM base (w.iterAt k s p') vL vl vs ls l :=
 ⟨own_iter h.rows hk, h.len, fun j h1 h2 => ⟨own_iter (h.each j h1 h2).1 hk, (h.each j h1 h2).2⟩, own_iter h.cur hk⟩
theorem LinesM.word {base : Nat} {w w' : World} {vL vl v' : Value} {vs : List Value} {ls : List (List ByteArray)} {l : List ByteArray} (h : LinesM base w vL vl vs ls l) {s : ByteArray} {o : Obj} (ho : w'.ownsRow base 9 1 v' (l.length + 1) (strs l ++ [.string s])) (hg : GGrw (w.alloc o) w' vl v') :
  LinesM base w' vL v' vs ls (l ++ [s]) := by
 have keep : ∀ {e : TypeId} {v : Value} {n : Nat} {xs : List Value}, w.ownsRow base e 1 v n xs → (∀ b, v.ownBlock = some b → vl.ownBlock ≠ some b) → w'.ownsRow base e 1 v n xs := by
  intro e v n xs h1 h2
  refine own_keep h1 fun b hb => ?_
  obtain ⟨_, c, hc⟩ := own_hp h1 b hb
  have hlt := (Array.getElem?_eq_some_iff.1 hc).1
  rw [hg.1.block b (by simp; omega) (fun e => h2 b hb e.symm)]
  exact Below.heap_alloc w o b hlt
 have hne : (92 : TypeId) ≠ 9 := by decide
 refine ⟨keep h.rows (own_apart h.rows h.cur hne), h.len, fun j h1 h2 => ⟨keep (h.each j h1 h2).1 (h.each j h1 h2).2, fun b hb => ?_⟩, ?_⟩
 ·
  rcases hg.2 with e | e
  · rw [e]; exact (h.each j h1 h2).2 b hb
  ·
   intro e2
   have := e b e2
   obtain ⟨_, c, hc⟩ := own_hp (h.each j h1 h2).1 b hb
   have hlt := (Array.getElem?_eq_some_iff.1 hc).1
   simp at this
   omega
 ·
  unfold strs at ho ⊢
  rw [List.map_append, List.length_append]
  exact ho
theorem LinesM.line {base : Nat} {w w' : World} {vL vl v' : Value} {vs : List Value} {ls : List (List ByteArray)} {l : List ByteArray} (h : LinesM base w vL vl vs ls l) {o : Obj} (ho : w'.ownsRow base 92 1 v' (vs.length + 1) (vs ++ [vl])) (hg : GGrw (w.alloc o) w' vL v') :
  LinesM base w' v' (.slice none 0 0) (vs ++ [vl]) (ls ++ [l]) [] := by
 have hne : (9 : TypeId) ≠ 92 := by decide
 have keep : ∀ {v : Value} {n : Nat} {xs : List Value}, w.ownsRow base 9 1 v n xs → w'.ownsRow base 9 1 v n xs := by
  intro v n xs h1
  refine own_keep h1 fun b hb => ?_
  obtain ⟨_, c, hc⟩ := own_hp h1 b hb
  have hlt := (Array.getElem?_eq_some_iff.1 hc).1
  rw [hg.1.block b (by simp; omega) (fun e => own_apart h1 h.rows hne b hb e.symm)]
  exact Below.heap_alloc w o b hlt
 refine ⟨by rw [List.length_append]; exact ho, by simp [h.len], fun j h1 h2 => ⟨?_, fun b _ e => by cases e⟩, World.ownsRow_nil _ _ _ _⟩
 simp only [List.getElem_append]
 have hlen := h.len
 by_cases hj : j < vs.length
 ·
  rw [dif_pos hj, dif_pos (show j < ls.length by omega)]
  exact keep (h.each j hj (by omega)).1
 ·
  rw [dif_neg hj, dif_neg (show ¬ j < ls.length by omega)]
  have e0 : j = vs.length := by simp at h1; omega
  subst e0
  simp only [hlen, Nat.sub_self, List.getElem_singleton]
  exact keep h.cur
def stI : Option Nat → Int
 | none => -1
 | some a => (a : Int)
def LinesPost (ls : List (List ByteArray)) (w : World) (e : Ending) (w' : World) : Prop :=
 ∃ v vs, e = .returned (.tuple #[v, .int .i64 0, .int .i64 0]) ∧ vs.length = ls.length ∧ Sl w' w'.heap.size 1 v ls.length vs ∧ (∀ j, (h : j < vs.length) → (h' : j < ls.length) → Sl w' w'.heap.size 1 vs[j] ls[j].length (strs ls[j])) ∧ Below w.heap.size w w'
theorem lex_let {s : ByteArray} {pos : Nat} (h : Aw.isL (Aw.byt s pos) = true) : Aw.lex s (pos + 1) = ⟨(Aw.lex s pos).ls, (Aw.lex s pos).l, some ((Aw.lex s pos).st.getD pos)⟩ := by
 show Aw.step s (Aw.lex s pos) pos = _
 unfold Aw.step; rw [if_pos h]
theorem lex_nl {s : ByteArray} {pos : Nat} (h : Aw.byt s pos = 10) : Aw.lex s (pos + 1) = ⟨(Aw.lex s pos).ls ++ [Aw.word s (Aw.lex s pos) pos], [], none⟩ := by
 show Aw.step s (Aw.lex s pos) pos = _
 unfold Aw.step; rw [if_neg (by rw [h]; decide), if_pos h]
theorem lex_sp {s : ByteArray} {pos : Nat} (h : Aw.byt s pos = 32) : Aw.lex s (pos + 1) = ⟨(Aw.lex s pos).ls, Aw.word s (Aw.lex s pos) pos, none⟩ := by
 show Aw.step s (Aw.lex s pos) pos = _
 unfold Aw.step; rw [if_neg (by rw [h]; decide), if_neg (by omega)]
theorem word_none {s : ByteArray} {x : Aw.LxS} {i : Nat} (h : x.st = none) : Aw.word s x i = x.l := by unfold Aw.word; rw [h]
theorem word_some {s : ByteArray} {x : Aw.LxS} {i a : Nat} (h : x.st = some a) : Aw.word s x i = x.l ++ [s.extract a i] := by unfold Aw.word; rw [h]
theorem c_small {c : Nat} (h : Aw.isL c = true ∨ c = 10 ∨ c = 32) : c < 128 := by
 rcases h with h | h | h
 · rw [Aw.isL_iff] at h; omega
 · omega
 · omega
theorem c_sp {c : Nat} (h : Aw.isL c = true ∨ c = 10 ∨ c = 32) (h1 : Aw.isL c = false) (h2 : ¬ c = 10) : c = 32 := by
 rcases h with h | h | h
 · rw [h1] at h; cases h
 · exact absurd h h2
 · exact h
theorem islet_10 (w : World) : Calls Tryz.prog 58 #[.int .i32 10] w fun e w' => e = .returned (.bool false) ∧ w = w' := islet_is (c := 10) (by decide) false (by decide) w
theorem islet_32 (w : World) : Calls Tryz.prog 58 #[.int .i32 32] w fun e w' => e = .returned (.bool false) ∧ w = w' := islet_is (c := 32) (by decide) false (by decide) w
theorem strs_one (s : ByteArray) : ∀ u ∈ [Value.string s], u.oneCell' = true := fun u hu => by simp at hu; subst hu; rfl
theorem slc_one {v : Value} (h : v.oneCell' = true) : ∀ u ∈ [v], u.oneCell' = true := fun u hu => by simp at hu; subst hu; exact h
theorem aown_lit {w : World} {base : Nat} {e : TypeId} {sz n : Nat} {v : Value} {xs : List Value} (h : w.ownsRow base e sz v n xs) : ∃ A n' c, v = .slice A n' c := by
 rcases h.2 with ⟨rfl, _⟩ | ⟨g, cap, cur, rfl, _⟩
 · exact ⟨_, _, _, rfl⟩
 · exact ⟨_, _, _, rfl⟩
theorem own_oneCell {w : World} {base : Nat} {e : TypeId} {sz n : Nat} {v : Value} {xs : List Value} (h : w.ownsRow base e sz v n xs) : v.oneCell' = true := by
 rcases h.2 with ⟨rfl, _⟩ | ⟨g, cap, cur, rfl, _⟩ <;> rfl
theorem LinesM.post {base : Nat} {w w' : World} {v : Value} {vl : Value} {vs : List Value} {ls : List (List ByteArray)} {l : List ByteArray} (h : LinesM base w' v vl vs ls l) (hb : Below w.heap.size w w') :
  LinesPost ls w (.returned (.tuple #[v, .int .i64 0, .int .i64 0])) w' :=
 ⟨v, vs, rfl, h.len, by have := Sl.of_own h.rows; rw [h.len] at this; exact this, fun j h1 h2 => Sl.of_own (h.each j h1 h2).1, hb⟩
set_option maxHeartbeats 16000000 in
set_option maxRecDepth 100000 in
theorem lines_ok (s : ByteArray) (hsz : s.size ≤ 1000) (hp : Aw.Plain s) (w : World) :
    Calls Tryz.prog 36 #[.string s] w (LinesPost (Aw.fin s) w) := by
  have HP := hid hp
  clear hp
  go_enter Tryz.func36, Tryz.ntmps36
  go_wp2_with fail
  go_loopw [5, 6, 7, 8, 9] (fun lv cv sv rv av wr => ∃ (pos : Nat) (vs : List Value) (vL vl : Value), vL = lv ∧ vl = cv ∧ rv = .bool false ∧ Hid (LinesM w.heap.size wr vL vl vs (Aw.lex s pos).ls (Aw.lex s pos).l) ∧ Hid (wr.heap[w.heap.size]? = some (.stringIter s pos)) ∧ Hid (Below w.heap.size w wr) ∧ pos ≤ s.size ∧ sv = .int .i64 (stI (Aw.lex s pos).st) ∧ av = .int .i64 (pos : Int)) (fun _ _ _ _ av _ => s.size - (intOf av).toNat)
  case atStart => exact ⟨0, [], _, _, rfl, rfl, rfl, hid (LinesM.nil _ _), hid (World.iter_heap w s 0), hid (bel_new _ _), Nat.zero_le _, rfl, rfl⟩
  case round =>
    obtain ⟨pos, vs, vL, vl, rfl, rfl, rfl, HM, HI, HBe, hpos, rfl, rfl⟩ := hrel
    obtain ⟨Al, nl, cl, rfl⟩ := aown_lit HM.out.cur
    have SZ : Hid (w.heap.size ≤ wr.heap.size) := hid (by have := (Array.getElem?_eq_some_iff.1 HI.out).1; omega)
    obtain ⟨X, hX⟩ : ∃ X, X = Aw.lex s pos := ⟨_, rfl⟩
    have HX := hid hX
    rw [← hX] at HM
    rw [← hX]
    have HLL : Hid (X.l.length ≤ 1000 ∧ vs.length ≤ 1000) := hid (by have h1 := Aw.lex_len (s := s) pos; rw [← hX] at h1; have h2 := HM.out.len; omega)
    have HST : Hid (∀ a, X.st = some a → a < pos) := hid (fun a ha => Aw.lex_st (by rw [← hX]; exact ha))
    clear hX
    obtain ⟨Xs, Xl, Xt⟩ := X
    dsimp only at HM HLL HST
    by_cases hlt : pos < s.size
    case pos =>
      obtain ⟨c, hc⟩ : ∃ c, c = Aw.byt s pos := ⟨_, rfl⟩
      have hP := HP.out pos hlt
      rw [← hc] at hP
      have hc128 : c < 128 := c_small hP
      have hcs : (s[pos]'hlt).toNat = c := by rw [hc]; unfold Aw.byt; rw [dif_pos hlt]
      obtain ⟨w1, hw1⟩ : ∃ W, W = wr.iterAt w.heap.size s (pos + 1) := ⟨_, rfl⟩
      have hnx : ∀ ty, (Instr.next (.pointer (some ⟨w.heap.size, 0, none⟩)) true ty).run Tryz.prog wr = .ok (.tuple #[.bool true, .int .i64 (pos : Int), .int .i32 (c : Int)]) w1 := fun ty => by
        rw [Lib.run_next_ascii_at wr w.heap.size s pos ty HI.out hlt (by rw [hcs]; exact hc128), hcs, hw1]
      have HM1 : Hid (LinesM w.heap.size w1 vL (.slice Al nl cl) vs Xs Xl) := hid (by rw [hw1]; exact HM.out.iter HI.out)
      have HI1 : Hid (w1.heap[w.heap.size]? = some (.stringIter s (pos + 1))) := hid (by rw [hw1]; exact Lib.iterAt_heap _ _ _ _ _ HI.out)
      have HB1 : Hid (Below w.heap.size w w1) := hid (by rw [hw1]; exact Lib.below_iterAt HBe.out (Nat.le_refl _) _ _)
      have SZ1 : Hid (w.heap.size ≤ w1.heap.size) := hid (by rw [hw1, Lib.iterAt_size]; exact SZ.out)
      have HC := hid hc
      have hp0 : (0 : Int) ≤ (pos : Int) := by omega
      have hps : (pos : Int) ≤ (s.size : Int) := by omega
      clear hc hcs hw1 SZ
      by_cases hcl : Aw.isL c = true
      case pos =>
        have hn10 : ((c : Int) == 10) = false := by rw [Aw.isL_iff] at hcl; simp; omega
        have hn32 : ((c : Int) == 32) = false := by rw [Aw.isL_iff] at hcl; simp; omega
        have hn9 : ((c : Int) == 9) = false := by rw [Aw.isL_iff] at hcl; simp; omega
        have hn35 : ((c : Int) == 35) = false := by rw [Aw.isL_iff] at hcl; simp; omega
        clear hP
        cases Xt with
        | none =>
          have hs0 : stI none = -1 := rfl
          simp only [hs0]
          go_wp2_with (go_at_call 58; refine (islet_is hc128 _ hcl _).mono ?_; rintro e _ ⟨rfl, rfl⟩)
          go_roundw
          case rel =>
            exact ⟨pos + 1, vs, _, _, rfl, rfl, rfl, hid (by rw [(lex_let (by rw [← HC.out]; exact hcl)), ← HX.out]; exact HM1.out), hid HI1.out, hid HB1.out, by omega, by rw [(lex_let (by rw [← HC.out]; exact hcl)), ← HX.out]; rfl, by go_num⟩
          case measure => simp [intOf]; omega
        | some a =>
          have hs0 : stI (some a) = (a : Int) := rfl
          simp only [hs0]
          have ha := HST.out a rfl
          have ha0 : (0 : Int) ≤ (a : Int) := by omega
          have ha1 : (a : Int) ≤ (pos : Int) := by omega
          have ha2 : ¬ (a : Int) < 0 := by omega
          go_wp2_with (go_at_call 58; refine (islet_is hc128 _ hcl _).mono ?_; rintro e _ ⟨rfl, rfl⟩)
          go_roundw
          case rel =>
            exact ⟨pos + 1, vs, _, _, rfl, rfl, rfl, hid (by rw [(lex_let (by rw [← HC.out]; exact hcl)), ← HX.out]; exact HM1.out), hid HI1.out, hid HB1.out, by omega, by rw [(lex_let (by rw [← HC.out]; exact hcl)), ← HX.out]; rfl, by go_num⟩
          case measure => simp [intOf]; omega
      case neg =>
        rw [Bool.not_eq_true] at hcl
        by_cases hc10 : c = 10
        case pos =>
          subst hc10
          have hnx : ∀ ty, (Instr.next (.pointer (some ⟨w.heap.size, 0, none⟩)) true ty).run Tryz.prog wr = .ok (.tuple #[.bool true, .int .i64 (pos : Int), .int .i32 10]) w1 := hnx
          clear hP
          cases Xt with
          | none =>
            have hs0 : stI none = -1 := rfl
            simp only [hs0]
            go_wp2_with first
              | (go_at_call 58; refine (islet_10 _).mono ?_; rintro e _ ⟨rfl, rfl⟩)
              | (at_builtin; refine wl_app1G (news := [.slice Al nl cl]) rfl _ _ Tlines rfl rfl HM1.out.rows rfl rfl (slc_one (own_oneCell HM1.out.cur)) (by have := HLL.out; omega) SZ1.out ?_)
            intro v3 w3 hO3 hG3
            have HM3 := hid (HM1.out.line hO3 hG3)
            have hcA := HM1.out.rows.alloc (.cells #[.slice Al nl cl] 92)
            have HI3 : Hid (w3.heap[w.heap.size]? = some (.stringIter s (pos + 1))) := hid (iter_grown hcA hG3 ((Below.heap_alloc _ _ _ (Array.getElem?_eq_some_iff.1 HI1.out).1).trans HI1.out))
            have HB3 : Hid (Below w.heap.size w w3) := hid ((HB1.out.alloc SZ1.out _).trans (GGrw.below hG3 hcA (by have := SZ1.out; simp; omega)))
            clear hO3 hG3 hcA
            go_wp2_with fail
            go_roundw
            case rel =>
              exact ⟨pos + 1, (vs ++ [.slice Al nl cl]), _, _, rfl, rfl, rfl, hid (by rw [(lex_nl HC.out.symm), word_none (by rw [← HX.out]), ← HX.out]; exact HM3.out), hid HI3.out, hid HB3.out, by omega, by rw [(lex_nl HC.out.symm)]; rfl, by go_num⟩
            case measure => simp [intOf]; omega
          | some a =>
            have hs0 : stI (some a) = (a : Int) := rfl
            simp only [hs0]
            have ha := HST.out a rfl
            have ha0 : (0 : Int) ≤ (a : Int) := by omega
            have ha1 : (a : Int) ≤ (pos : Int) := by omega
            have ha2 : ¬ (a : Int) < 0 := by omega
            go_wp2_with first
              | (go_at_call 58; refine (islet_10 _).mono ?_; rintro e _ ⟨rfl, rfl⟩)
              | (at_builtin; refine wl_app1G (news := [.string (s.extract a pos)]) rfl _ _ Tstrs rfl rfl HM1.out.cur rfl rfl (strs_one _) (by have := HLL.out; omega) SZ1.out ?_)
            intro v2 w2 hO2 hG2
            obtain ⟨A2, n2, c2, rfl⟩ := aown_lit hO2
            have HM2 := hid (HM1.out.word hO2 hG2)
            have hcA := HM1.out.cur.alloc (.cells #[.string (s.extract a pos)] 9)
            have HI2 : Hid (w2.heap[w.heap.size]? = some (.stringIter s (pos + 1))) := hid (iter_grown hcA hG2 ((Below.heap_alloc _ _ _ (Array.getElem?_eq_some_iff.1 HI1.out).1).trans HI1.out))
            have HB2 : Hid (Below w.heap.size w w2) := hid ((HB1.out.alloc SZ1.out _).trans (GGrw.below hG2 hcA (by have := SZ1.out; simp; omega)))
            have SZ2 : Hid (w.heap.size ≤ w2.heap.size) := hid (by have := hG2.1.size; simp at this; have := SZ1.out; omega)
            clear hO2 hG2 hcA HM1 HI1 HB1 SZ1
            go_wp2_with first
              | (at_builtin; refine wl_app1G (news := [.slice A2 n2 c2]) rfl _ _ Tlines rfl rfl HM2.out.rows rfl rfl (slc_one (own_oneCell HM2.out.cur)) (by have := HLL.out; omega) SZ2.out ?_)
            intro v3 w3 hO3 hG3
            have HM3 := hid (HM2.out.line hO3 hG3)
            have hcA := HM2.out.rows.alloc (.cells #[.slice A2 n2 c2] 92)
            have HI3 : Hid (w3.heap[w.heap.size]? = some (.stringIter s (pos + 1))) := hid (iter_grown hcA hG3 ((Below.heap_alloc _ _ _ (Array.getElem?_eq_some_iff.1 HI2.out).1).trans HI2.out))
            have HB3 : Hid (Below w.heap.size w w3) := hid ((HB2.out.alloc SZ2.out _).trans (GGrw.below hG3 hcA (by have := SZ2.out; simp; omega)))
            clear hO3 hG3 hcA
            go_wp2_with fail
            go_roundw
            case rel =>
              exact ⟨pos + 1, (vs ++ [.slice A2 n2 c2]), _, _, rfl, rfl, rfl, hid (by rw [(lex_nl HC.out.symm), word_some (a := a) (by rw [← HX.out]), ← HX.out]; exact HM3.out), hid HI3.out, hid HB3.out, by omega, by rw [(lex_nl HC.out.symm)]; rfl, by go_num⟩
            case measure => simp [intOf]; omega
        case neg =>
          skip
          have hc32 : c = 32 := c_sp hP hcl hc10
          subst hc32
          have hnx : ∀ ty, (Instr.next (.pointer (some ⟨w.heap.size, 0, none⟩)) true ty).run Tryz.prog wr = .ok (.tuple #[.bool true, .int .i64 (pos : Int), .int .i32 32]) w1 := hnx
          clear hP
          cases Xt with
          | none =>
            have hs0 : stI none = -1 := rfl
            simp only [hs0]
            go_wp2_with (go_at_call 58; refine (islet_32 _).mono ?_; rintro e _ ⟨rfl, rfl⟩)
            go_roundw
            case rel =>
              exact ⟨pos + 1, vs, _, _, rfl, rfl, rfl, hid (by rw [(lex_sp HC.out.symm), word_none (by rw [← HX.out]), ← HX.out]; exact HM1.out), hid HI1.out, hid HB1.out, by omega, by rw [(lex_sp HC.out.symm)]; rfl, by go_num⟩
            case measure => simp [intOf]; omega
          | some a =>
            have hs0 : stI (some a) = (a : Int) := rfl
            simp only [hs0]
            have ha := HST.out a rfl
            have ha0 : (0 : Int) ≤ (a : Int) := by omega
            have ha1 : (a : Int) ≤ (pos : Int) := by omega
            have ha2 : ¬ (a : Int) < 0 := by omega
            go_wp2_with first
              | (go_at_call 58; refine (islet_32 _).mono ?_; rintro e _ ⟨rfl, rfl⟩)
              | (at_builtin; refine wl_app1G (news := [.string (s.extract a pos)]) rfl _ _ Tstrs rfl rfl HM1.out.cur rfl rfl (strs_one _) (by have := HLL.out; omega) SZ1.out ?_)
            intro v2 w2 hO2 hG2
            obtain ⟨A2, n2, c2, rfl⟩ := aown_lit hO2
            have HM2 := hid (HM1.out.word hO2 hG2)
            have hcA := HM1.out.cur.alloc (.cells #[.string (s.extract a pos)] 9)
            have HI2 : Hid (w2.heap[w.heap.size]? = some (.stringIter s (pos + 1))) := hid (iter_grown hcA hG2 ((Below.heap_alloc _ _ _ (Array.getElem?_eq_some_iff.1 HI1.out).1).trans HI1.out))
            have HB2 : Hid (Below w.heap.size w w2) := hid ((HB1.out.alloc SZ1.out _).trans (GGrw.below hG2 hcA (by have := SZ1.out; simp; omega)))
            have SZ2 : Hid (w.heap.size ≤ w2.heap.size) := hid (by have := hG2.1.size; simp at this; have := SZ1.out; omega)
            clear hO2 hG2 hcA HM1 HI1 HB1 SZ1
            go_wp2_with fail
            go_roundw
            case rel =>
              exact ⟨pos + 1, vs, _, _, rfl, rfl, rfl, hid (by rw [(lex_sp HC.out.symm), word_some (a := a) (by rw [← HX.out]), ← HX.out]; exact HM2.out), hid HI2.out, hid HB2.out, by omega, by rw [(lex_sp HC.out.symm)]; rfl, by go_num⟩
            case measure => simp [intOf]; omega
    case neg =>
      obtain rfl : pos = s.size := by omega
      have hnx : ∀ ty, (Instr.next (.pointer (some ⟨w.heap.size, 0, none⟩)) true ty).run Tryz.prog wr = .ok (.tuple #[.bool false]) wr := fun ty => Lib.run_next_end_at wr w.heap.size s s.size ty HI.out hlt
      have hF : Aw.fin s = Xs ++ [Aw.word s ⟨Xs, Xl, Xt⟩ s.size] := by unfold Aw.fin; rw [← HX.out]
      have HF := hid hF
      clear hF
      cases Xt with
      | none =>
        have hs0 : stI none = -1 := rfl
        simp only [hs0]
        go_wp2_with first
          | (at_builtin; refine wl_app1G (news := [.slice Al nl cl]) rfl _ _ Tlines rfl rfl HM.out.rows rfl rfl (slc_one (own_oneCell HM.out.cur)) (by have := HLL.out; omega) SZ.out ?_)
        intro v3 w3 hO3 hG3
        have HM3 := hid (HM.out.line hO3 hG3)
        have hcA := HM.out.rows.alloc (.cells #[.slice Al nl cl] 92)
        have HB3 : Hid (Below w.heap.size w w3) := hid ((HBe.out.alloc SZ.out _).trans (GGrw.below hG3 hcA (by have := SZ.out; simp; omega)))
        clear hO3 hG3 hcA
        go_wp2
        refine bodyPost_ret (v := .tuple #[v3, .int .i64 0, .int .i64 0]) (by simp [results, Tryz.results36, go_sem]) rfl ?_
        rw [HF.out, word_none rfl]
        exact HM3.out.post HB3.out
      | some a =>
        have hs0 : stI (some a) = (a : Int) := rfl
        simp only [hs0]
        have ha := HST.out a rfl
        have ha0 : (0 : Int) ≤ (a : Int) := by omega
        have ha1 : (a : Int) ≤ (s.size : Int) := by omega
        go_wp2_with first
          | (at_builtin; refine wl_app1G (news := [.string (s.extract a s.size)]) rfl _ _ Tstrs rfl rfl HM.out.cur rfl rfl (strs_one _) (by have := HLL.out; omega) SZ.out ?_)
        intro v2 w2 hO2 hG2
        obtain ⟨A2, n2, c2, rfl⟩ := aown_lit hO2
        have HM2 := hid (HM.out.word hO2 hG2)
        have hcA := HM.out.cur.alloc (.cells #[.string (s.extract a s.size)] 9)
        have HB2 : Hid (Below w.heap.size w w2) := hid ((HBe.out.alloc SZ.out _).trans (GGrw.below hG2 hcA (by have := SZ.out; simp; omega)))
        have SZ2 : Hid (w.heap.size ≤ w2.heap.size) := hid (by have := hG2.1.size; simp at this; have := SZ.out; omega)
        clear hO2 hG2 hcA HM HBe SZ HI
        go_wp2_with first
          | (at_builtin; refine wl_app1G (news := [.slice A2 n2 c2]) rfl _ _ Tlines rfl rfl HM2.out.rows rfl rfl (slc_one (own_oneCell HM2.out.cur)) (by have := HLL.out; omega) SZ2.out ?_)
        intro v3 w3 hO3 hG3
        have HM3 := hid (HM2.out.line hO3 hG3)
        have hcA := HM2.out.rows.alloc (.cells #[.slice A2 n2 c2] 92)
        have HB3 : Hid (Below w.heap.size w w3) := hid ((HB2.out.alloc SZ2.out _).trans (GGrw.below hG3 hcA (by have := SZ2.out; simp; omega)))
        clear hO3 hG3 hcA
        go_wp2
        refine bodyPost_ret (v := .tuple #[v3, .int .i64 0, .int .i64 0]) (by simp [results, Tryz.results36, go_sem]) rfl ?_
        rw [HF.out, word_some (a := a) rfl]
        exact HM3.out.post HB3.out
end Go.Proofs.YtahodfikhocobaaGreatDoor
