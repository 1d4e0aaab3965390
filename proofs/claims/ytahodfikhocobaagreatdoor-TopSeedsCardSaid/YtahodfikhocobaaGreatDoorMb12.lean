/- The texts AwM, AwN, AwO, merged. No theorem here is a claim by itself. -/
import Derived.Test.YtahodfikhocobaaGreatDoorMb11
namespace Go.Proofs.YtahodfikhocobaaGreatDoor
open Go.RowKit
set_option linter.unusedVariables false
set_option linter.unusedSimpArgs false
attribute [local go_sem ↓] Go.wp_at_zero Go.wp_at_succ
theorem insert_B {A1 A2 : Option Addr} {c1 c2 : Nat} {w : World} (h : GM w (.slice A1 2 c1) (.slice A2 0 c2) hsA []) : Calls Tryz.prog 16 #[.agg #[.int .i64 3, .int .i64 2, .int .i64 1, .slice A1 2 c1, .slice A2 0 c2], .int .i64 1, .int .i64 0] w fun e w' => ∃ A c, e = .returned (.tuple #[.agg #[.int .i64 3, .int .i64 2, .int .i64 1, .slice A1 2 c1, .slice A 1 c], .int .i64 0]) ∧ Sl w' w'.heap.size 3 (.slice A 1 c) 1 (eds eA) ∧ (∀ K, K < w.heap.size → Off K (.slice A2 0 c2) → Off K (.slice A 1 c)) ∧ Below w.heap.size w w' := by
 refine (tInsert_ok h gpA0 (by decide) 1 0).mono ?_
 intro e w' hp
 unfold ActPost at hp
 rw [insA] at hp
 obtain ⟨v', err, he, h0, hs, hk, hb⟩ := hp
 have h1 : err = 0 := h0.resolve_right (by decide)
 subst h1
 obtain ⟨A, c, rfl, _⟩ := id hs
 exact ⟨A, c, he, hs, hk, hb⟩
theorem off_zero {K c : Nat} {A : Option Addr} : Off K (.slice A 0 c) := by
 intro b o n c' h h0
 injection h with _ h
 omega
variable {A1 A2 A3 : Option Addr} {c1 c2 c3 : Nat} {w : World}
def ChAdd (A1 A2 : Option Addr) (c1 c2 : Nat) (ss : List (Bool × Int)) (w : World) (e : Ending) (w' : World) : Prop := ∃ A c, e = .returned (.tuple #[.agg #[.int .i64 3, .int .i64 2, .int .i64 1, .slice A1 2 c1, .slice A2 0 c2, .slice A 3 c], .int .i64 0]) ∧ SM w' (.slice A1 2 c1) (.slice A2 0 c2) (.slice A 3 c) [] ss ∧ (∀ K, K < w.heap.size → Off K (.slice A 3 c)) ∧ Below w.heap.size w w'
def ChIns (A1 A3 : Option Addr) (c1 c3 : Nat) (w : World) (e : Ending) (w' : World) : Prop := ∃ A c, e = .returned (.tuple #[.agg #[.int .i64 3, .int .i64 2, .int .i64 1, .slice A1 2 c1, .slice A 1 c, .slice A3 3 c3], .int .i64 0]) ∧ SM w' (.slice A1 2 c1) (.slice A 1 c) (.slice A3 3 c3) eA sA3 ∧ (∀ K, K < w.heap.size → Off K (.slice A 1 c)) ∧ Below w.heap.size w w'
set_option maxHeartbeats 16000000 in
set_option maxRecDepth 100000 in
theorem change_add {ss : List (Bool × Int)} {k : Int} {j : Nat} {u v : Int} (hm : SM w (.slice A1 2 c1) (.slice A2 0 c2) (.slice A3 3 c3) [] ss) (h1 : Vt.Ok ss) (h2 : Vt.fn ss k = none) (h3 : Vt.ff ss = some j) : Calls Tryz.prog 118 #[.agg #[.int .i64 3, .int .i64 2, .int .i64 1, .slice A1 2 c1, .slice A2 0 c2, .slice A3 3 c3], .agg #[.int .i64 1, .int .u64 k, .int .u64 0, .string ⟨#[]⟩], .int .i64 u, .int .i64 v] w (ChAdd A1 A2 c1 c2 (ss.set j (true, k)) w) := by
 have HM := hid hm
 have S3 := hid hm.ss
 have H1 := hid h1
 have H2 := hid h2
 have H3 := hid h3
 clear hm h1 h2 h3
 obtain ⟨w1, hw1⟩ : ∃ W, W = w.alloc (.cells #[.int .i64 3, .int .i64 2, .int .i64 1, .slice A1 2 c1, .slice A2 0 c2, .slice A3 3 c3] 85) := ⟨_, rfl⟩
 obtain ⟨K4, hK4⟩ : ∃ K, K = w.heap.size := ⟨_, rfl⟩
 obtain ⟨w2, hw2⟩ : ∃ W, W = w1.alloc (.cells #[.int .i64 1, .int .u64 k, .int .u64 0, .string ⟨#[]⟩] 124) := ⟨_, rfl⟩
 obtain ⟨K5, hK5⟩ : ∃ K, K = K4 + 1 := ⟨_, rfl⟩
 obtain ⟨w3, hw3⟩ : ∃ W, W = w2.alloc (.cells #[.int .i64 0, .int .i64 0, .int .i64 0, .slice none 0 0, .slice none 0 0, .slice none 0 0] 85) := ⟨_, rfl⟩
 obtain ⟨K8, hK8⟩ : ∃ K, K = K5 + 1 := ⟨_, rfl⟩
 have zw1 : w1.heap.size = K4 + 1 := by rw [hw1, hK4]; simp
 have zw2 : w2.heap.size = K4 + 2 := by rw [hw2]; simp; exact zw1
 have zw3 : w3.heap.size = K4 + 3 := by rw [hw3]; simp; exact zw2
 have D_K4 : Hid (Blk w3 K4 85 [.int .i64 3, .int .i64 2, .int .i64 1, .slice A1 2 c1, .slice A2 0 c2, .slice A3 3 c3]) := hid (by rw [hK4]; rw [hw3, hw2, hw1]; exact ((Blk.new _ _ _).alloc _).alloc _)
 have LO_K4 : Hid (w.heap.size ≤ K4) := hid (by omega)
 have D_K5 : Hid (Blk w3 K5 124 [.int .i64 1, .int .u64 k, .int .u64 0, .string ⟨#[]⟩]) := hid (by rw [show K5 = w1.heap.size by omega]; rw [hw3, hw2]; exact (Blk.new _ _ _).alloc _)
 have LO_K5 : Hid (w.heap.size ≤ K5) := hid (by omega)
 have D_K8 : Hid (Blk w3 K8 85 [.int .i64 0, .int .i64 0, .int .i64 0, .slice none 0 0, .slice none 0 0, .slice none 0 0]) := hid (by rw [show K8 = w2.heap.size by omega]; rw [hw3]; exact Blk.new _ _ _)
 have LO_K8 : Hid (w.heap.size ≤ K8) := hid (by omega)
 have NE_K4_K5 : Hid (K4 ≠ K5) := hid (by omega)
 have NE_K4_K8 : Hid (K4 ≠ K8) := hid (by omega)
 have NE_K5_K8 : Hid (K5 ≠ K8) := hid (by omega)
 have HB : Hid (Below w.heap.size w w3) := hid (by rw [hw3, hw2, hw1]; exact Bl.new (Bl.new (bel_new _ _) _) _)
 replace S3 := hid (S3.out.call HB.out)
 have HW_w1 := hid hw1
 have HK_K4 := hid hK4
 have HW_w2 := hid hw2
 have HK_K5 := hid hK5
 have HW_w3 := hid hw3
 have HK_K8 := hid hK8
 clear hw1 hw2 hw3 hK4 hK5 hK8 zw1 zw2 zw3
 go_enter Tryz.func118, Tryz.ntmps118
 go_upto_region 1 with (fail)
 rw [← HW_w1.out, ← HK_K4.out, ← HK_K5.out, ← HW_w2.out, ← HK_K8.out, ← HW_w3.out]
 have cK40 := D_K4.out.cell 0
 have cK41 := D_K4.out.cell 1
 have cK42 := D_K4.out.cell 2
 have cK43 := D_K4.out.cell 3
 have cK44 := D_K4.out.cell 4
 have cK45 := D_K4.out.cell 5
 have cK50 := D_K5.out.cell 0
 have cK51 := D_K5.out.cell 1
 have cK52 := D_K5.out.cell 2
 have cK53 := D_K5.out.cell 3
 have L4 : Hid (K4 < w3.heap.size ∧ K8 < w3.heap.size) := hid ⟨D_K4.out.lt, D_K8.out.lt⟩
 go_wp2_with fail
 have HBk := hid HB.out.size
 refine (vadd_own (n := 3) S3.out H1.out H2.out H3.out).mono ?_; rintro e w4 ⟨KN, cN, rfl, kN, SN_, b_⟩
 clear cK40 cK41 cK42 cK43 cK44 cK45 cK50 cK51 cK52 cK53
 replace D_K4 := hid (D_K4.out.on b_)
 replace D_K5 := hid (D_K5.out.on b_)
 replace D_K8 := hid (D_K8.out.on b_)
 replace S3 := hid (S3.out.call b_)
 replace HB := hid (Bl.call HB.out b_)
 have SN := hid SN_
 clear SN_
 clear b_
 have OFN : Hid (∀ K, K < w.heap.size → Off K (.slice (some ⟨KN, 0, none⟩) 3 cN)) := hid (fun K hK => off_new (by have := HBk.out; omega))
 have OG : Hid (Off K4 (.slice (some ⟨KN, 0, none⟩) 3 cN) ∧ Off K8 (.slice (some ⟨KN, 0, none⟩) 3 cN)) := hid ⟨off_new (by have := L4.out; omega), off_new (by have := L4.out; omega)⟩
 clear kN L4
 have cK40 := D_K4.out.cell 0
 have cK41 := D_K4.out.cell 1
 have cK42 := D_K4.out.cell 2
 have cK43 := D_K4.out.cell 3
 have cK44 := D_K4.out.cell 4
 have cK45 := D_K4.out.cell 5
 have fK40 := D_K4.out.frozen 0
 have fK41 := D_K4.out.frozen 1
 have fK42 := D_K4.out.frozen 2
 have fK43 := D_K4.out.frozen 3
 have fK44 := D_K4.out.frozen 4
 have fK45 := D_K4.out.frozen 5
 obtain ⟨w5, hw5⟩ : ∃ W, W = (w4.setCell ⟨K4, 5, none⟩ (.slice (some ⟨KN, 0, none⟩) 3 cN)) := ⟨_, rfl⟩
 have E_K4 : Hid (Blk w5 K4 85 [.int .i64 3, .int .i64 2, .int .i64 1, .slice A1 2 c1, .slice A2 0 c2, .slice (some ⟨KN, 0, none⟩) 3 cN]) := hid (by rw [hw5]; exact (D_K4.out).put 5 _)
 have E_K5 : Hid (Blk w5 K5 124 [.int .i64 1, .int .u64 k, .int .u64 0, .string ⟨#[]⟩]) := hid (by rw [hw5]; exact (D_K5.out).far (p := ⟨K4, 5, none⟩) NE_K4_K5.out.symm _)
 have E_K8 : Hid (Blk w5 K8 85 [.int .i64 0, .int .i64 0, .int .i64 0, .slice none 0 0, .slice none 0 0, .slice none 0 0]) := hid (by rw [hw5]; exact (D_K8.out).far (p := ⟨K4, 5, none⟩) NE_K4_K8.out.symm _)
 have EB : Hid (Below w.heap.size w w5) := hid (by rw [hw5]; exact (HB.out).setCell (p := ⟨K4, 5, none⟩) LO_K4.out _)
 have E_SN : Hid (Sl w5 w5.heap.size 2 (.slice (some ⟨KN, 0, none⟩) 3 cN) 3 (sls (ss.set j (true, k)))) := hid (by rw [hw5]; exact SN.out.off OG.out.1)
 have HW_w5 := hid hw5
 clear hw5
 go_upto_region 17 with (fail)
 rw [← HW_w5.out]
 clear cK40 cK41 cK42 cK43 cK44 cK45 fK40 fK41 fK42 fK43 fK44 fK45
 clear HB D_K4 D_K5 D_K8 SN
 have D_K4 := E_K4
 have D_K5 := E_K5
 have D_K8 := E_K8
 have HB := EB
 have SN := E_SN
 clear EB E_K4 E_K5 E_K8 E_SN
 have cK40 := D_K4.out.cell 0
 have cK41 := D_K4.out.cell 1
 have cK42 := D_K4.out.cell 2
 have cK43 := D_K4.out.cell 3
 have cK44 := D_K4.out.cell 4
 have cK45 := D_K4.out.cell 5
 have cK80 := D_K8.out.cell 0
 have cK81 := D_K8.out.cell 1
 have cK82 := D_K8.out.cell 2
 have cK83 := D_K8.out.cell 3
 have cK84 := D_K8.out.cell 4
 have cK85 := D_K8.out.cell 5
 have fK80 := D_K8.out.frozen 0
 have fK81 := D_K8.out.frozen 1
 have fK82 := D_K8.out.frozen 2
 have fK83 := D_K8.out.frozen 3
 have fK84 := D_K8.out.frozen 4
 have fK85 := D_K8.out.frozen 5
 obtain ⟨w6, hw6⟩ : ∃ W, W = ((((((w5.setCell ⟨K8, 0, none⟩ (.int .i64 3)).setCell ⟨K8, 1, none⟩ (.int .i64 2)).setCell ⟨K8, 2, none⟩ (.int .i64 1)).setCell ⟨K8, 3, none⟩ (.slice A1 2 c1)).setCell ⟨K8, 4, none⟩ (.slice A2 0 c2)).setCell ⟨K8, 5, none⟩ (.slice (some ⟨KN, 0, none⟩) 3 cN)) := ⟨_, rfl⟩
 have E_K4 : Hid (Blk w6 K4 85 [.int .i64 3, .int .i64 2, .int .i64 1, .slice A1 2 c1, .slice A2 0 c2, .slice (some ⟨KN, 0, none⟩) 3 cN]) := hid (by rw [hw6]; exact ((((((D_K4.out).far (p := ⟨K8, 0, none⟩) NE_K4_K8.out _).far (p := ⟨K8, 1, none⟩) NE_K4_K8.out _).far (p := ⟨K8, 2, none⟩) NE_K4_K8.out _).far (p := ⟨K8, 3, none⟩) NE_K4_K8.out _).far (p := ⟨K8, 4, none⟩) NE_K4_K8.out _).far (p := ⟨K8, 5, none⟩) NE_K4_K8.out _)
 have E_K5 : Hid (Blk w6 K5 124 [.int .i64 1, .int .u64 k, .int .u64 0, .string ⟨#[]⟩]) := hid (by rw [hw6]; exact ((((((D_K5.out).far (p := ⟨K8, 0, none⟩) NE_K5_K8.out _).far (p := ⟨K8, 1, none⟩) NE_K5_K8.out _).far (p := ⟨K8, 2, none⟩) NE_K5_K8.out _).far (p := ⟨K8, 3, none⟩) NE_K5_K8.out _).far (p := ⟨K8, 4, none⟩) NE_K5_K8.out _).far (p := ⟨K8, 5, none⟩) NE_K5_K8.out _)
 have E_K8 : Hid (Blk w6 K8 85 [.int .i64 3, .int .i64 2, .int .i64 1, .slice A1 2 c1, .slice A2 0 c2, .slice (some ⟨KN, 0, none⟩) 3 cN]) := hid (by rw [hw6]; exact ((((((D_K8.out).put 0 _).put 1 _).put 2 _).put 3 _).put 4 _).put 5 _)
 have EB : Hid (Below w.heap.size w w6) := hid (by rw [hw6]; exact ((((((HB.out).setCell (p := ⟨K8, 0, none⟩) LO_K8.out _).setCell (p := ⟨K8, 1, none⟩) LO_K8.out _).setCell (p := ⟨K8, 2, none⟩) LO_K8.out _).setCell (p := ⟨K8, 3, none⟩) LO_K8.out _).setCell (p := ⟨K8, 4, none⟩) LO_K8.out _).setCell (p := ⟨K8, 5, none⟩) LO_K8.out _)
 have E_SN : Hid (Sl w6 w6.heap.size 2 (.slice (some ⟨KN, 0, none⟩) 3 cN) 3 (sls (ss.set j (true, k)))) := hid (by rw [hw6]; exact (((((SN.out.off OG.out.2).off OG.out.2).off OG.out.2).off OG.out.2).off OG.out.2).off OG.out.2)
 have HW_w6 := hid hw6
 clear hw6
 go_wp2
 rw [← HW_w6.out]
 clear cK40 cK41 cK42 cK43 cK44 cK45 cK80 cK81 cK82 cK83 cK84 cK85 fK80 fK81 fK82 fK83 fK84 fK85
 clear HB D_K4 D_K5 D_K8 SN
 have D_K4 := E_K4
 have D_K5 := E_K5
 have D_K8 := E_K8
 have HB := EB
 have SN := E_SN
 clear EB E_K4 E_K5 E_K8 E_SN
 have cK80 := D_K8.out.cell 0
 have cK81 := D_K8.out.cell 1
 have cK82 := D_K8.out.cell 2
 have cK83 := D_K8.out.cell 3
 have cK84 := D_K8.out.cell 4
 have cK85 := D_K8.out.cell 5
 exact bodyPost_ret (v := .tuple #[.agg #[.int .i64 3, .int .i64 2, .int .i64 1, .slice A1 2 c1, .slice A2 0 c2, .slice (some ⟨KN, 0, none⟩) 3 cN], .int .i64 0]) (by simp [results, Tryz.results118, go_sem, cK80, cK81, cK82, cK83, cK84, cK85]) rfl ⟨_, _, rfl, ⟨HM.out.sh.call HB.out, HM.out.se.call HB.out, SN.out⟩, OFN.out, HB.out⟩
set_option maxHeartbeats 16000000 in
set_option maxRecDepth 100000 in
theorem change_ins (hm : SM w (.slice A1 2 c1) (.slice A2 0 c2) (.slice A3 3 c3) [] sA3) : Calls Tryz.prog 118 #[.agg #[.int .i64 3, .int .i64 2, .int .i64 1, .slice A1 2 c1, .slice A2 0 c2, .slice A3 3 c3], .agg #[.int .i64 3, .int .u64 6, .int .u64 4, .string ⟨#[]⟩], .int .i64 1, .int .i64 0] w (ChIns A1 A3 c1 c3 w) := by
 have HM := hid hm
 have GM_ := hid hm.gm
 clear hm
 obtain ⟨w1, hw1⟩ : ∃ W, W = w.alloc (.cells #[.int .i64 3, .int .i64 2, .int .i64 1, .slice A1 2 c1, .slice A2 0 c2, .slice A3 3 c3] 85) := ⟨_, rfl⟩
 obtain ⟨K4, hK4⟩ : ∃ K, K = w.heap.size := ⟨_, rfl⟩
 obtain ⟨w2, hw2⟩ : ∃ W, W = w1.alloc (.cells #[.int .i64 3, .int .u64 6, .int .u64 4, .string ⟨#[]⟩] 124) := ⟨_, rfl⟩
 obtain ⟨K5, hK5⟩ : ∃ K, K = K4 + 1 := ⟨_, rfl⟩
 obtain ⟨w3, hw3⟩ : ∃ W, W = w2.alloc (.cells #[.int .i64 0, .int .i64 0, .int .i64 0, .slice none 0 0, .slice none 0 0, .slice none 0 0] 85) := ⟨_, rfl⟩
 obtain ⟨K8, hK8⟩ : ∃ K, K = K5 + 1 := ⟨_, rfl⟩
 have zw1 : w1.heap.size = K4 + 1 := by rw [hw1, hK4]; simp
 have zw2 : w2.heap.size = K4 + 2 := by rw [hw2]; simp; exact zw1
 have zw3 : w3.heap.size = K4 + 3 := by rw [hw3]; simp; exact zw2
 have D_K4 : Hid (Blk w3 K4 85 [.int .i64 3, .int .i64 2, .int .i64 1, .slice A1 2 c1, .slice A2 0 c2, .slice A3 3 c3]) := hid (by rw [hK4]; rw [hw3, hw2, hw1]; exact ((Blk.new _ _ _).alloc _).alloc _)
 have LO_K4 : Hid (w.heap.size ≤ K4) := hid (by omega)
 have D_K5 : Hid (Blk w3 K5 124 [.int .i64 3, .int .u64 6, .int .u64 4, .string ⟨#[]⟩]) := hid (by rw [show K5 = w1.heap.size by omega]; rw [hw3, hw2]; exact (Blk.new _ _ _).alloc _)
 have LO_K5 : Hid (w.heap.size ≤ K5) := hid (by omega)
 have D_K8 : Hid (Blk w3 K8 85 [.int .i64 0, .int .i64 0, .int .i64 0, .slice none 0 0, .slice none 0 0, .slice none 0 0]) := hid (by rw [show K8 = w2.heap.size by omega]; rw [hw3]; exact Blk.new _ _ _)
 have LO_K8 : Hid (w.heap.size ≤ K8) := hid (by omega)
 have NE_K4_K5 : Hid (K4 ≠ K5) := hid (by omega)
 have NE_K4_K8 : Hid (K4 ≠ K8) := hid (by omega)
 have NE_K5_K8 : Hid (K5 ≠ K8) := hid (by omega)
 have HB : Hid (Below w.heap.size w w3) := hid (by rw [hw3, hw2, hw1]; exact Bl.new (Bl.new (bel_new _ _) _) _)
 replace GM_ := hid (GM_.out.call HB.out)
 have HW_w1 := hid hw1
 have HK_K4 := hid hK4
 have HW_w2 := hid hw2
 have HK_K5 := hid hK5
 have HW_w3 := hid hw3
 have HK_K8 := hid hK8
 clear hw1 hw2 hw3 hK4 hK5 hK8 zw1 zw2 zw3
 go_enter Tryz.func118, Tryz.ntmps118
 go_upto_region 1 with (fail)
 rw [← HW_w1.out, ← HK_K4.out, ← HK_K5.out, ← HW_w2.out, ← HK_K8.out, ← HW_w3.out]
 have cK40 := D_K4.out.cell 0
 have cK41 := D_K4.out.cell 1
 have cK42 := D_K4.out.cell 2
 have cK43 := D_K4.out.cell 3
 have cK44 := D_K4.out.cell 4
 have cK45 := D_K4.out.cell 5
 have cK50 := D_K5.out.cell 0
 have cK51 := D_K5.out.cell 1
 have cK52 := D_K5.out.cell 2
 have cK53 := D_K5.out.cell 3
 have L4 : Hid (K4 < w3.heap.size ∧ K8 < w3.heap.size) := hid ⟨D_K4.out.lt, D_K8.out.lt⟩
 go_wp2_with fail
 have HBk := hid HB.out.size
 refine (insert_B GM_.out).mono ?_; rintro e w4 ⟨AN, cN, rfl, SN_, oN, b_⟩
 clear cK40 cK41 cK42 cK43 cK44 cK45 cK50 cK51 cK52 cK53
 replace D_K4 := hid (D_K4.out.on b_)
 replace D_K5 := hid (D_K5.out.on b_)
 replace D_K8 := hid (D_K8.out.on b_)
 replace GM_ := hid (GM_.out.call b_)
 replace HB := hid (Bl.call HB.out b_)
 have SN := hid SN_
 clear SN_
 clear b_
 have OFN : Hid (∀ K, K < w.heap.size → Off K (.slice AN 1 cN)) := hid (fun K hK => oN K (by have := HBk.out; omega) off_zero)
 have OG : Hid (Off K4 (.slice AN 1 cN) ∧ Off K8 (.slice AN 1 cN)) := hid ⟨oN K4 L4.out.1 off_zero, oN K8 L4.out.2 off_zero⟩
 clear oN L4
 have cK40 := D_K4.out.cell 0
 have cK41 := D_K4.out.cell 1
 have cK42 := D_K4.out.cell 2
 have cK43 := D_K4.out.cell 3
 have cK44 := D_K4.out.cell 4
 have cK45 := D_K4.out.cell 5
 have fK40 := D_K4.out.frozen 0
 have fK41 := D_K4.out.frozen 1
 have fK42 := D_K4.out.frozen 2
 have fK43 := D_K4.out.frozen 3
 have fK44 := D_K4.out.frozen 4
 have fK45 := D_K4.out.frozen 5
 obtain ⟨w5, hw5⟩ : ∃ W, W = (((((w4.setCell ⟨K4, 0, none⟩ (.int .i64 3)).setCell ⟨K4, 1, none⟩ (.int .i64 2)).setCell ⟨K4, 2, none⟩ (.int .i64 1)).setCell ⟨K4, 3, none⟩ (.slice A1 2 c1)).setCell ⟨K4, 4, none⟩ (.slice AN 1 cN)) := ⟨_, rfl⟩
 have E_K4 : Hid (Blk w5 K4 85 [.int .i64 3, .int .i64 2, .int .i64 1, .slice A1 2 c1, .slice AN 1 cN, .slice A3 3 c3]) := hid (by rw [hw5]; exact (((((D_K4.out).put 0 _).put 1 _).put 2 _).put 3 _).put 4 _)
 have E_K5 : Hid (Blk w5 K5 124 [.int .i64 3, .int .u64 6, .int .u64 4, .string ⟨#[]⟩]) := hid (by rw [hw5]; exact (((((D_K5.out).far (p := ⟨K4, 0, none⟩) NE_K4_K5.out.symm _).far (p := ⟨K4, 1, none⟩) NE_K4_K5.out.symm _).far (p := ⟨K4, 2, none⟩) NE_K4_K5.out.symm _).far (p := ⟨K4, 3, none⟩) NE_K4_K5.out.symm _).far (p := ⟨K4, 4, none⟩) NE_K4_K5.out.symm _)
 have E_K8 : Hid (Blk w5 K8 85 [.int .i64 0, .int .i64 0, .int .i64 0, .slice none 0 0, .slice none 0 0, .slice none 0 0]) := hid (by rw [hw5]; exact (((((D_K8.out).far (p := ⟨K4, 0, none⟩) NE_K4_K8.out.symm _).far (p := ⟨K4, 1, none⟩) NE_K4_K8.out.symm _).far (p := ⟨K4, 2, none⟩) NE_K4_K8.out.symm _).far (p := ⟨K4, 3, none⟩) NE_K4_K8.out.symm _).far (p := ⟨K4, 4, none⟩) NE_K4_K8.out.symm _)
 have EB : Hid (Below w.heap.size w w5) := hid (by rw [hw5]; exact (((((HB.out).setCell (p := ⟨K4, 0, none⟩) LO_K4.out _).setCell (p := ⟨K4, 1, none⟩) LO_K4.out _).setCell (p := ⟨K4, 2, none⟩) LO_K4.out _).setCell (p := ⟨K4, 3, none⟩) LO_K4.out _).setCell (p := ⟨K4, 4, none⟩) LO_K4.out _)
 have E_SN : Hid (Sl w5 w5.heap.size 3 (.slice AN 1 cN) 1 (eds eA)) := hid (by rw [hw5]; exact (((((SN.out.off OG.out.1).off OG.out.1).off OG.out.1).off OG.out.1).off OG.out.1))
 have HW_w5 := hid hw5
 clear hw5
 go_upto_region 17 with (fail)
 rw [← HW_w5.out]
 clear cK40 cK41 cK42 cK43 cK44 cK45 fK40 fK41 fK42 fK43 fK44 fK45
 clear HB D_K4 D_K5 D_K8 SN
 have D_K4 := E_K4
 have D_K5 := E_K5
 have D_K8 := E_K8
 have HB := EB
 have SN := E_SN
 clear EB E_K4 E_K5 E_K8 E_SN
 have cK40 := D_K4.out.cell 0
 have cK41 := D_K4.out.cell 1
 have cK42 := D_K4.out.cell 2
 have cK43 := D_K4.out.cell 3
 have cK44 := D_K4.out.cell 4
 have cK45 := D_K4.out.cell 5
 have cK80 := D_K8.out.cell 0
 have cK81 := D_K8.out.cell 1
 have cK82 := D_K8.out.cell 2
 have cK83 := D_K8.out.cell 3
 have cK84 := D_K8.out.cell 4
 have cK85 := D_K8.out.cell 5
 have fK80 := D_K8.out.frozen 0
 have fK81 := D_K8.out.frozen 1
 have fK82 := D_K8.out.frozen 2
 have fK83 := D_K8.out.frozen 3
 have fK84 := D_K8.out.frozen 4
 have fK85 := D_K8.out.frozen 5
 obtain ⟨w6, hw6⟩ : ∃ W, W = ((((((w5.setCell ⟨K8, 0, none⟩ (.int .i64 3)).setCell ⟨K8, 1, none⟩ (.int .i64 2)).setCell ⟨K8, 2, none⟩ (.int .i64 1)).setCell ⟨K8, 3, none⟩ (.slice A1 2 c1)).setCell ⟨K8, 4, none⟩ (.slice AN 1 cN)).setCell ⟨K8, 5, none⟩ (.slice A3 3 c3)) := ⟨_, rfl⟩
 have E_K4 : Hid (Blk w6 K4 85 [.int .i64 3, .int .i64 2, .int .i64 1, .slice A1 2 c1, .slice AN 1 cN, .slice A3 3 c3]) := hid (by rw [hw6]; exact ((((((D_K4.out).far (p := ⟨K8, 0, none⟩) NE_K4_K8.out _).far (p := ⟨K8, 1, none⟩) NE_K4_K8.out _).far (p := ⟨K8, 2, none⟩) NE_K4_K8.out _).far (p := ⟨K8, 3, none⟩) NE_K4_K8.out _).far (p := ⟨K8, 4, none⟩) NE_K4_K8.out _).far (p := ⟨K8, 5, none⟩) NE_K4_K8.out _)
 have E_K5 : Hid (Blk w6 K5 124 [.int .i64 3, .int .u64 6, .int .u64 4, .string ⟨#[]⟩]) := hid (by rw [hw6]; exact ((((((D_K5.out).far (p := ⟨K8, 0, none⟩) NE_K5_K8.out _).far (p := ⟨K8, 1, none⟩) NE_K5_K8.out _).far (p := ⟨K8, 2, none⟩) NE_K5_K8.out _).far (p := ⟨K8, 3, none⟩) NE_K5_K8.out _).far (p := ⟨K8, 4, none⟩) NE_K5_K8.out _).far (p := ⟨K8, 5, none⟩) NE_K5_K8.out _)
 have E_K8 : Hid (Blk w6 K8 85 [.int .i64 3, .int .i64 2, .int .i64 1, .slice A1 2 c1, .slice AN 1 cN, .slice A3 3 c3]) := hid (by rw [hw6]; exact ((((((D_K8.out).put 0 _).put 1 _).put 2 _).put 3 _).put 4 _).put 5 _)
 have EB : Hid (Below w.heap.size w w6) := hid (by rw [hw6]; exact ((((((HB.out).setCell (p := ⟨K8, 0, none⟩) LO_K8.out _).setCell (p := ⟨K8, 1, none⟩) LO_K8.out _).setCell (p := ⟨K8, 2, none⟩) LO_K8.out _).setCell (p := ⟨K8, 3, none⟩) LO_K8.out _).setCell (p := ⟨K8, 4, none⟩) LO_K8.out _).setCell (p := ⟨K8, 5, none⟩) LO_K8.out _)
 have E_SN : Hid (Sl w6 w6.heap.size 3 (.slice AN 1 cN) 1 (eds eA)) := hid (by rw [hw6]; exact ((((((SN.out.off OG.out.2).off OG.out.2).off OG.out.2).off OG.out.2).off OG.out.2).off OG.out.2))
 have HW_w6 := hid hw6
 clear hw6
 go_wp2
 rw [← HW_w6.out]
 clear cK40 cK41 cK42 cK43 cK44 cK45 cK80 cK81 cK82 cK83 cK84 cK85 fK80 fK81 fK82 fK83 fK84 fK85
 clear HB D_K4 D_K5 D_K8 SN
 have D_K4 := E_K4
 have D_K5 := E_K5
 have D_K8 := E_K8
 have HB := EB
 have SN := E_SN
 clear EB E_K4 E_K5 E_K8 E_SN
 have cK80 := D_K8.out.cell 0
 have cK81 := D_K8.out.cell 1
 have cK82 := D_K8.out.cell 2
 have cK83 := D_K8.out.cell 3
 have cK84 := D_K8.out.cell 4
 have cK85 := D_K8.out.cell 5
 exact bodyPost_ret (v := .tuple #[.agg #[.int .i64 3, .int .i64 2, .int .i64 1, .slice A1 2 c1, .slice AN 1 cN, .slice A3 3 c3], .int .i64 0]) (by simp [results, Tryz.results118, go_sem, cK80, cK81, cK82, cK83, cK84, cK85]) rfl ⟨_, _, rfl, ⟨HM.out.sh.call HB.out, SN.out, HM.out.ss.call HB.out⟩, OFN.out, HB.out⟩
end Go.Proofs.YtahodfikhocobaaGreatDoor
namespace Go.Proofs.YtahodfikhocobaaGreatDoor
open Go.RowKit
set_option linter.unusedVariables false
set_option linter.unusedSimpArgs false
attribute [local go_sem ↓] Go.wp_at_zero Go.wp_at_succ
theorem aright0 {v1 v3 : Value} {A2 : Option Addr} {c2 : Nat} {ss : List (Bool × Int)} {w : World} (h : SM w v1 (.slice A2 0 c2) v3 [] ss) (hk : Vt.Ok ss) (hl : ss.length = 3) : Calls Tryz.prog 113 #[.agg #[.int .i64 3, .int .i64 2, .int .i64 1, v1, .slice A2 0 c2, v3]] w fun e w' => e = .returned (.bool true) ∧ Below w.heap.size w w' := aright h (by decide) (srA0 hk hl)
theorem aright1 {v1 v3 : Value} {A2 : Option Addr} {c2 : Nat} {w : World} (h : SM w v1 (.slice A2 1 c2) v3 eA sA3) : Calls Tryz.prog 113 #[.agg #[.int .i64 3, .int .i64 2, .int .i64 1, v1, .slice A2 1 c2, v3]] w fun e w' => e = .returned (.bool true) ∧ Below w.heap.size w w' := aright h (by decide) srA1
theorem asksA_1 (w : World) : Calls Tryz.prog 115 #[.int .i64 1] w fun e w' => e = .returned (.bool false) ∧ w = w' := by
 go_enter Tryz.func115, Tryz.ntmps115
 go_wp2
 go_ret
 exact ⟨rfl, rfl⟩
theorem asksB_1 (w : World) : Calls Tryz.prog 116 #[.int .i64 1] w fun e w' => e = .returned (.bool false) ∧ w = w' := by
 go_enter Tryz.func116, Tryz.ntmps116
 go_wp2
 go_ret
 exact ⟨rfl, rfl⟩
theorem asksA_3 (w : World) : Calls Tryz.prog 115 #[.int .i64 3] w fun e w' => e = .returned (.bool true) ∧ w = w' := by
 go_enter Tryz.func115, Tryz.ntmps115
 go_wp2
 go_ret
 exact ⟨rfl, rfl⟩
theorem asksB_3 (w : World) : Calls Tryz.prog 116 #[.int .i64 3] w fun e w' => e = .returned (.bool true) ∧ w = w' := by
 go_enter Tryz.func116, Tryz.ntmps116
 go_wp2
 go_ret
 exact ⟨rfl, rfl⟩
theorem asksA_8 (w : World) : Calls Tryz.prog 115 #[.int .i64 8] w fun e w' => e = .returned (.bool true) ∧ w = w' := by
 go_enter Tryz.func115, Tryz.ntmps115
 go_wp2
 go_ret
 exact ⟨rfl, rfl⟩
theorem asksB_8 (w : World) : Calls Tryz.prog 116 #[.int .i64 8] w fun e w' => e = .returned (.bool true) ∧ w = w' := by
 go_enter Tryz.func116, Tryz.ntmps116
 go_wp2
 go_ret
 exact ⟨rfl, rfl⟩
theorem asksA_13 (w : World) : Calls Tryz.prog 115 #[.int .i64 13] w fun e w' => e = .returned (.bool false) ∧ w = w' := by
 go_enter Tryz.func115, Tryz.ntmps115
 go_wp2
 go_ret
 exact ⟨rfl, rfl⟩
theorem asksB_13 (w : World) : Calls Tryz.prog 116 #[.int .i64 13] w fun e w' => e = .returned (.bool false) ∧ w = w' := by
 go_enter Tryz.func116, Tryz.ntmps116
 go_wp2
 go_ret
 exact ⟨rfl, rfl⟩
theorem asksA_9 (w : World) : Calls Tryz.prog 115 #[.int .i64 9] w fun e w' => e = .returned (.bool true) ∧ w = w' := by
 go_enter Tryz.func115, Tryz.ntmps115
 go_wp2
 go_ret
 exact ⟨rfl, rfl⟩
theorem asksB_9 (w : World) : Calls Tryz.prog 116 #[.int .i64 9] w fun e w' => e = .returned (.bool false) ∧ w = w' := by
 go_enter Tryz.func116, Tryz.ntmps116
 go_wp2
 go_ret
 exact ⟨rfl, rfl⟩
variable {A1 A2 A3 : Option Addr} {c1 c2 c3 : Nat} {w : World}
def DoAdd (A1 A2 : Option Addr) (c1 c2 : Nat) (ss : List (Bool × Int)) (w : World) (e : Ending) (w' : World) : Prop := ∃ A c, e = .returned (.tuple #[.agg #[.int .i64 3, .int .i64 2, .int .i64 1, .slice A1 2 c1, .slice A2 0 c2, .slice A 3 c], .iface 48 (.int .i64 0)]) ∧ SM w' (.slice A1 2 c1) (.slice A2 0 c2) (.slice A 3 c) [] ss ∧ (∀ K, K < w.heap.size → Off K (.slice A 3 c)) ∧ Below w.heap.size w w'
def DoIns (A1 A3 : Option Addr) (c1 c3 : Nat) (w : World) (e : Ending) (w' : World) : Prop := ∃ A c, e = .returned (.tuple #[.agg #[.int .i64 3, .int .i64 2, .int .i64 1, .slice A1 2 c1, .slice A 1 c, .slice A3 3 c3], .iface 48 (.int .i64 0)]) ∧ SM w' (.slice A1 2 c1) (.slice A 1 c) (.slice A3 3 c3) eA sA3 ∧ (∀ K, K < w.heap.size → Off K (.slice A 1 c)) ∧ Below w.heap.size w w'
def DoAns (A1 A2 A3 : Option Addr) (c1 c2 c3 : Nat) (T : TypeId) (v : Value) (w : World) (e : Ending) (w' : World) : Prop := e = .returned (.tuple #[.agg #[.int .i64 3, .int .i64 2, .int .i64 1, .slice A1 2 c1, .slice A2 1 c2, .slice A3 3 c3], .iface T v]) ∧ Below w.heap.size w w'
set_option maxHeartbeats 16000000 in
set_option maxRecDepth 100000 in
theorem do_add {ss : List (Bool × Int)} {k : Int} {j : Nat} (hm : SM w (.slice A1 2 c1) (.slice A2 0 c2) (.slice A3 3 c3) [] ss) (h0 : ss.length = 3) (h1 : Vt.Ok ss) (h2 : Vt.fn ss k = none) (h3 : Vt.ff ss = some j) (f1 : (fdP ss k).getD 0 = 0 ∧ (fdP ss k).isSome = false) (f2 : (fdP ss 0).getD 0 = 0 ∧ (fdP ss 0).isSome = false) : Calls Tryz.prog 88 #[.agg #[.int .i64 3, .int .i64 2, .int .i64 1, .slice A1 2 c1, .slice A2 0 c2, .slice A3 3 c3], .agg #[.int .i64 1, .int .u64 k, .int .u64 0, .string ⟨#[]⟩]] w (DoAdd A1 A2 c1 c2 (ss.set j (true, k)) w) := by
 have HM := hid hm
 have SM_ := hid hm
 have S3 := hid hm.ss
 have H1 := hid h1
 have H2 := hid h2
 have H3 := hid h3
 have H0 := hid h0
 have F1 := hid f1
 have F2 := hid f2
 clear hm h1 h2 h3 h0 f1 f2
 obtain ⟨w1, hw1⟩ : ∃ W, W = w.alloc (.cells #[.int .i64 3, .int .i64 2, .int .i64 1, .slice A1 2 c1, .slice A2 0 c2, .slice A3 3 c3] 85) := ⟨_, rfl⟩
 obtain ⟨K2, hK2⟩ : ∃ K, K = w.heap.size := ⟨_, rfl⟩
 obtain ⟨w2, hw2⟩ : ∃ W, W = w1.alloc (.cells #[.int .i64 1, .int .u64 k, .int .u64 0, .string ⟨#[]⟩] 124) := ⟨_, rfl⟩
 obtain ⟨K3, hK3⟩ : ∃ K, K = K2 + 1 := ⟨_, rfl⟩
 obtain ⟨w3, hw3⟩ : ∃ W, W = w2.alloc (.cells #[.int .i64 0, .int .i64 0, .int .i64 0, .slice none 0 0, .slice none 0 0, .slice none 0 0] 85) := ⟨_, rfl⟩
 obtain ⟨K4, hK4⟩ : ∃ K, K = K3 + 1 := ⟨_, rfl⟩
 have zw1 : w1.heap.size = K2 + 1 := by rw [hw1, hK2]; simp
 have zw2 : w2.heap.size = K2 + 2 := by rw [hw2]; simp; exact zw1
 have zw3 : w3.heap.size = K2 + 3 := by rw [hw3]; simp; exact zw2
 have D_K2 : Hid (Blk w3 K2 85 [.int .i64 3, .int .i64 2, .int .i64 1, .slice A1 2 c1, .slice A2 0 c2, .slice A3 3 c3]) := hid (by rw [hK2]; rw [hw3, hw2, hw1]; exact ((Blk.new _ _ _).alloc _).alloc _)
 have LO_K2 : Hid (w.heap.size ≤ K2) := hid (by omega)
 have D_K3 : Hid (Blk w3 K3 124 [.int .i64 1, .int .u64 k, .int .u64 0, .string ⟨#[]⟩]) := hid (by rw [show K3 = w1.heap.size by omega]; rw [hw3, hw2]; exact (Blk.new _ _ _).alloc _)
 have LO_K3 : Hid (w.heap.size ≤ K3) := hid (by omega)
 have D_K4 : Hid (Blk w3 K4 85 [.int .i64 0, .int .i64 0, .int .i64 0, .slice none 0 0, .slice none 0 0, .slice none 0 0]) := hid (by rw [show K4 = w2.heap.size by omega]; rw [hw3]; exact Blk.new _ _ _)
 have LO_K4 : Hid (w.heap.size ≤ K4) := hid (by omega)
 have NE_K2_K3 : Hid (K2 ≠ K3) := hid (by omega)
 have NE_K2_K4 : Hid (K2 ≠ K4) := hid (by omega)
 have NE_K3_K4 : Hid (K3 ≠ K4) := hid (by omega)
 have HB : Hid (Below w.heap.size w w3) := hid (by rw [hw3, hw2, hw1]; exact Bl.new (Bl.new (bel_new _ _) _) _)
 replace S3 := hid (S3.out.call HB.out)
 replace SM_ := hid (SM_.out.call HB.out)
 have HW_w1 := hid hw1
 have HK_K2 := hid hK2
 have HW_w2 := hid hw2
 have HK_K3 := hid hK3
 have HW_w3 := hid hw3
 have HK_K4 := hid hK4
 clear hw1 hw2 hw3 hK2 hK3 hK4 zw1 zw2 zw3
 go_enter Tryz.func88, Tryz.ntmps88
 go_upto_region 1 with (fail)
 rw [← HW_w1.out, ← HK_K2.out, ← HK_K3.out, ← HW_w2.out, ← HK_K4.out, ← HW_w3.out]
 have cK20 := D_K2.out.cell 0
 have cK21 := D_K2.out.cell 1
 have cK22 := D_K2.out.cell 2
 have cK23 := D_K2.out.cell 3
 have cK24 := D_K2.out.cell 4
 have cK25 := D_K2.out.cell 5
 have cK30 := D_K3.out.cell 0
 have cK31 := D_K3.out.cell 1
 have cK32 := D_K3.out.cell 2
 have cK33 := D_K3.out.cell 3
 go_wp2_with fail
 have HBk := hid HB.out.size
 refine (aright0 SM_.out H1.out H0.out).mono ?_; rintro e w4 ⟨rfl, b_⟩
 clear cK20 cK21 cK22 cK23 cK24 cK25 cK30 cK31 cK32 cK33
 replace D_K2 := hid (D_K2.out.on b_)
 replace D_K3 := hid (D_K3.out.on b_)
 replace D_K4 := hid (D_K4.out.on b_)
 replace S3 := hid (S3.out.call b_)
 replace SM_ := hid (SM_.out.call b_)
 replace HB := hid (Bl.call HB.out b_)
 clear b_
 have cK20 := D_K2.out.cell 0
 have cK21 := D_K2.out.cell 1
 have cK22 := D_K2.out.cell 2
 have cK23 := D_K2.out.cell 3
 have cK24 := D_K2.out.cell 4
 have cK25 := D_K2.out.cell 5
 have cK30 := D_K3.out.cell 0
 have cK31 := D_K3.out.cell 1
 have cK32 := D_K3.out.cell 2
 have cK33 := D_K3.out.cell 3
 go_wp2_with fail
 replace HBk := hid HB.out.size
 refine (vfind_is S3.out 0 false F1.out.1 F1.out.2).mono ?_; rintro e w5 ⟨rfl, b_⟩
 clear cK20 cK21 cK22 cK23 cK24 cK25 cK30 cK31 cK32 cK33
 replace D_K2 := hid (D_K2.out.on b_)
 replace D_K3 := hid (D_K3.out.on b_)
 replace D_K4 := hid (D_K4.out.on b_)
 replace S3 := hid (S3.out.call b_)
 replace SM_ := hid (SM_.out.call b_)
 replace HB := hid (Bl.call HB.out b_)
 clear b_
 have cK20 := D_K2.out.cell 0
 have cK21 := D_K2.out.cell 1
 have cK22 := D_K2.out.cell 2
 have cK23 := D_K2.out.cell 3
 have cK24 := D_K2.out.cell 4
 have cK25 := D_K2.out.cell 5
 have cK30 := D_K3.out.cell 0
 have cK31 := D_K3.out.cell 1
 have cK32 := D_K3.out.cell 2
 have cK33 := D_K3.out.cell 3
 go_wp2_with fail
 replace HBk := hid HB.out.size
 refine (vfind_is S3.out 0 false F2.out.1 F2.out.2).mono ?_; rintro e w6 ⟨rfl, b_⟩
 clear cK20 cK21 cK22 cK23 cK24 cK25 cK30 cK31 cK32 cK33
 replace D_K2 := hid (D_K2.out.on b_)
 replace D_K3 := hid (D_K3.out.on b_)
 replace D_K4 := hid (D_K4.out.on b_)
 replace S3 := hid (S3.out.call b_)
 replace SM_ := hid (SM_.out.call b_)
 replace HB := hid (Bl.call HB.out b_)
 clear b_
 have cK20 := D_K2.out.cell 0
 have cK21 := D_K2.out.cell 1
 have cK22 := D_K2.out.cell 2
 have cK23 := D_K2.out.cell 3
 have cK24 := D_K2.out.cell 4
 have cK25 := D_K2.out.cell 5
 have cK30 := D_K3.out.cell 0
 have cK31 := D_K3.out.cell 1
 have cK32 := D_K3.out.cell 2
 have cK33 := D_K3.out.cell 3
 go_upto_region 7 with (first | (go_at_call 115; refine (asksA_1 _).mono ?_; rintro e _ ⟨rfl, rfl⟩) | (go_at_call 116; refine (asksB_1 _).mono ?_; rintro e _ ⟨rfl, rfl⟩))
 go_upto_region 9 with (fail)
 have L4 : Hid (K4 < w6.heap.size) := hid D_K4.out.lt
 go_wp2_with fail
 replace HBk := hid HB.out.size
 refine (change_add SM_.out H1.out H2.out H3.out).mono ?_; rintro e w7 ⟨AN, cN, rfl, SN_, oN, b_⟩
 clear cK20 cK21 cK22 cK23 cK24 cK25 cK30 cK31 cK32 cK33
 replace D_K2 := hid (D_K2.out.on b_)
 replace D_K3 := hid (D_K3.out.on b_)
 replace D_K4 := hid (D_K4.out.on b_)
 replace S3 := hid (S3.out.call b_)
 replace SM_ := hid (SM_.out.call b_)
 replace HB := hid (Bl.call HB.out b_)
 have SN := hid SN_
 clear SN_
 clear b_
 have OFN : Hid (∀ K, K < w.heap.size → Off K (.slice AN 3 cN)) := hid (fun K hK => oN K (by have := HBk.out; omega))
 have OG : Hid (Off K4 (.slice AN 3 cN)) := hid (oN K4 L4.out)
 clear oN L4
 go_upto_region 10 with (fail)
 obtain ⟨w8, hw8⟩ : ∃ W, W = w7.alloc (.cells #[.int .i64 3, .int .i64 2, .int .i64 1, .slice A1 2 c1, .slice A2 0 c2, .slice AN 3 cN] 85) := ⟨_, rfl⟩
 obtain ⟨K10, hK10⟩ : ∃ K, K = w7.heap.size := ⟨_, rfl⟩
 have b_ := bel_new w7 (.cells #[.int .i64 3, .int .i64 2, .int .i64 1, .slice A1 2 c1, .slice A2 0 c2, .slice AN 3 cN] 85)
 rw [← hw8] at b_
 have D_K10 : Hid (Blk w8 K10 85 [.int .i64 3, .int .i64 2, .int .i64 1, .slice A1 2 c1, .slice A2 0 c2, .slice AN 3 cN]) := hid (by rw [hw8, hK10]; exact Blk.new _ _ _)
 have LO_K10 : Hid (w.heap.size ≤ K10) := hid (by rw [hK10]; exact HB.out.size)
 have NE_K2_K10 : Hid (K2 ≠ K10) := hid (by have := D_K2.out.lt; rw [hK10]; omega)
 have NE_K3_K10 : Hid (K3 ≠ K10) := hid (by have := D_K3.out.lt; rw [hK10]; omega)
 have NE_K4_K10 : Hid (K4 ≠ K10) := hid (by have := D_K4.out.lt; rw [hK10]; omega)
 replace D_K2 := hid (D_K2.out.on b_)
 replace D_K3 := hid (D_K3.out.on b_)
 replace D_K4 := hid (D_K4.out.on b_)
 replace S3 := hid (S3.out.call b_)
 replace SM_ := hid (SM_.out.call b_)
 replace SN := hid (SN.out.call b_)
 replace HB := hid (Bl.call HB.out b_)
 rw [← hw8, ← hK10]
 have HW_w8 := hid hw8
 have HK_K10 := hid hK10
 clear b_ hw8 hK10
 have SN3 := hid SN.out.ss
 clear SN S3 SM_
 have cK100 := D_K10.out.cell 0
 have cK101 := D_K10.out.cell 1
 have cK102 := D_K10.out.cell 2
 have cK103 := D_K10.out.cell 3
 have cK104 := D_K10.out.cell 4
 have cK105 := D_K10.out.cell 5
 have cK40 := D_K4.out.cell 0
 have cK41 := D_K4.out.cell 1
 have cK42 := D_K4.out.cell 2
 have cK43 := D_K4.out.cell 3
 have cK44 := D_K4.out.cell 4
 have cK45 := D_K4.out.cell 5
 have fK40 := D_K4.out.frozen 0
 have fK41 := D_K4.out.frozen 1
 have fK42 := D_K4.out.frozen 2
 have fK43 := D_K4.out.frozen 3
 have fK44 := D_K4.out.frozen 4
 have fK45 := D_K4.out.frozen 5
 obtain ⟨w9, hw9⟩ : ∃ W, W = ((((((w8.setCell ⟨K4, 0, none⟩ (.int .i64 3)).setCell ⟨K4, 1, none⟩ (.int .i64 2)).setCell ⟨K4, 2, none⟩ (.int .i64 1)).setCell ⟨K4, 3, none⟩ (.slice A1 2 c1)).setCell ⟨K4, 4, none⟩ (.slice A2 0 c2)).setCell ⟨K4, 5, none⟩ (.slice AN 3 cN)) := ⟨_, rfl⟩
 have E_K2 : Hid (Blk w9 K2 85 [.int .i64 3, .int .i64 2, .int .i64 1, .slice A1 2 c1, .slice A2 0 c2, .slice A3 3 c3]) := hid (by rw [hw9]; exact ((((((D_K2.out).far (p := ⟨K4, 0, none⟩) NE_K2_K4.out _).far (p := ⟨K4, 1, none⟩) NE_K2_K4.out _).far (p := ⟨K4, 2, none⟩) NE_K2_K4.out _).far (p := ⟨K4, 3, none⟩) NE_K2_K4.out _).far (p := ⟨K4, 4, none⟩) NE_K2_K4.out _).far (p := ⟨K4, 5, none⟩) NE_K2_K4.out _)
 have E_K3 : Hid (Blk w9 K3 124 [.int .i64 1, .int .u64 k, .int .u64 0, .string ⟨#[]⟩]) := hid (by rw [hw9]; exact ((((((D_K3.out).far (p := ⟨K4, 0, none⟩) NE_K3_K4.out _).far (p := ⟨K4, 1, none⟩) NE_K3_K4.out _).far (p := ⟨K4, 2, none⟩) NE_K3_K4.out _).far (p := ⟨K4, 3, none⟩) NE_K3_K4.out _).far (p := ⟨K4, 4, none⟩) NE_K3_K4.out _).far (p := ⟨K4, 5, none⟩) NE_K3_K4.out _)
 have E_K4 : Hid (Blk w9 K4 85 [.int .i64 3, .int .i64 2, .int .i64 1, .slice A1 2 c1, .slice A2 0 c2, .slice AN 3 cN]) := hid (by rw [hw9]; exact ((((((D_K4.out).put 0 _).put 1 _).put 2 _).put 3 _).put 4 _).put 5 _)
 have E_K10 : Hid (Blk w9 K10 85 [.int .i64 3, .int .i64 2, .int .i64 1, .slice A1 2 c1, .slice A2 0 c2, .slice AN 3 cN]) := hid (by rw [hw9]; exact ((((((D_K10.out).far (p := ⟨K4, 0, none⟩) NE_K4_K10.out.symm _).far (p := ⟨K4, 1, none⟩) NE_K4_K10.out.symm _).far (p := ⟨K4, 2, none⟩) NE_K4_K10.out.symm _).far (p := ⟨K4, 3, none⟩) NE_K4_K10.out.symm _).far (p := ⟨K4, 4, none⟩) NE_K4_K10.out.symm _).far (p := ⟨K4, 5, none⟩) NE_K4_K10.out.symm _)
 have EB : Hid (Below w.heap.size w w9) := hid (by rw [hw9]; exact ((((((HB.out).setCell (p := ⟨K4, 0, none⟩) LO_K4.out _).setCell (p := ⟨K4, 1, none⟩) LO_K4.out _).setCell (p := ⟨K4, 2, none⟩) LO_K4.out _).setCell (p := ⟨K4, 3, none⟩) LO_K4.out _).setCell (p := ⟨K4, 4, none⟩) LO_K4.out _).setCell (p := ⟨K4, 5, none⟩) LO_K4.out _)
 have E_SN3 : Hid (Sl w9 w9.heap.size 2 (.slice AN 3 cN) 3 (sls (ss.set j (true, k)))) := hid (by rw [hw9]; exact ((((((SN3.out.off OG.out).off OG.out).off OG.out).off OG.out).off OG.out).off OG.out))
 have HW_w9 := hid hw9
 clear hw9
 go_wp2
 rw [← HW_w9.out]
 clear cK100 cK101 cK102 cK103 cK104 cK105 cK40 cK41 cK42 cK43 cK44 cK45 fK40 fK41 fK42 fK43 fK44 fK45
 clear HB D_K2 D_K3 D_K4 D_K10 SN3
 have D_K2 := E_K2
 have D_K3 := E_K3
 have D_K4 := E_K4
 have D_K10 := E_K10
 have HB := EB
 have SN3 := E_SN3
 clear EB E_K2 E_K3 E_K4 E_K10 E_SN3
 have cK40 := D_K4.out.cell 0
 have cK41 := D_K4.out.cell 1
 have cK42 := D_K4.out.cell 2
 have cK43 := D_K4.out.cell 3
 have cK44 := D_K4.out.cell 4
 have cK45 := D_K4.out.cell 5
 exact bodyPost_ret (v := .tuple #[.agg #[.int .i64 3, .int .i64 2, .int .i64 1, .slice A1 2 c1, .slice A2 0 c2, .slice AN 3 cN], .iface 48 (.int .i64 0)]) (by simp [results, Tryz.results88, go_sem, cK40, cK41, cK42, cK43, cK44, cK45]) rfl ⟨_, _, rfl, ⟨HM.out.sh.call HB.out, HM.out.se.call HB.out, SN3.out⟩, OFN.out, HB.out⟩
set_option maxHeartbeats 16000000 in
set_option maxRecDepth 100000 in
theorem do_ins (hm : SM w (.slice A1 2 c1) (.slice A2 0 c2) (.slice A3 3 c3) [] sA3) : Calls Tryz.prog 88 #[.agg #[.int .i64 3, .int .i64 2, .int .i64 1, .slice A1 2 c1, .slice A2 0 c2, .slice A3 3 c3], .agg #[.int .i64 3, .int .u64 6, .int .u64 4, .string ⟨#[]⟩]] w (DoIns A1 A3 c1 c3 w) := by
 have HM := hid hm
 have SM_ := hid hm
 have S3 := hid hm.ss
 clear hm
 have H1 := hid okA3
 have H0 : Hid (sA3.length = 3) := hid rfl
 have F1 := hid (show (fdP sA3 6).getD 0 = 1 ∧ (fdP sA3 6).isSome = true from by decide +kernel)
 have F2 := hid (show (fdP sA3 4).getD 0 = 0 ∧ (fdP sA3 4).isSome = true from by decide +kernel)
 obtain ⟨w1, hw1⟩ : ∃ W, W = w.alloc (.cells #[.int .i64 3, .int .i64 2, .int .i64 1, .slice A1 2 c1, .slice A2 0 c2, .slice A3 3 c3] 85) := ⟨_, rfl⟩
 obtain ⟨K2, hK2⟩ : ∃ K, K = w.heap.size := ⟨_, rfl⟩
 obtain ⟨w2, hw2⟩ : ∃ W, W = w1.alloc (.cells #[.int .i64 3, .int .u64 6, .int .u64 4, .string ⟨#[]⟩] 124) := ⟨_, rfl⟩
 obtain ⟨K3, hK3⟩ : ∃ K, K = K2 + 1 := ⟨_, rfl⟩
 obtain ⟨w3, hw3⟩ : ∃ W, W = w2.alloc (.cells #[.int .i64 0, .int .i64 0, .int .i64 0, .slice none 0 0, .slice none 0 0, .slice none 0 0] 85) := ⟨_, rfl⟩
 obtain ⟨K4, hK4⟩ : ∃ K, K = K3 + 1 := ⟨_, rfl⟩
 have zw1 : w1.heap.size = K2 + 1 := by rw [hw1, hK2]; simp
 have zw2 : w2.heap.size = K2 + 2 := by rw [hw2]; simp; exact zw1
 have zw3 : w3.heap.size = K2 + 3 := by rw [hw3]; simp; exact zw2
 have D_K2 : Hid (Blk w3 K2 85 [.int .i64 3, .int .i64 2, .int .i64 1, .slice A1 2 c1, .slice A2 0 c2, .slice A3 3 c3]) := hid (by rw [hK2]; rw [hw3, hw2, hw1]; exact ((Blk.new _ _ _).alloc _).alloc _)
 have LO_K2 : Hid (w.heap.size ≤ K2) := hid (by omega)
 have D_K3 : Hid (Blk w3 K3 124 [.int .i64 3, .int .u64 6, .int .u64 4, .string ⟨#[]⟩]) := hid (by rw [show K3 = w1.heap.size by omega]; rw [hw3, hw2]; exact (Blk.new _ _ _).alloc _)
 have LO_K3 : Hid (w.heap.size ≤ K3) := hid (by omega)
 have D_K4 : Hid (Blk w3 K4 85 [.int .i64 0, .int .i64 0, .int .i64 0, .slice none 0 0, .slice none 0 0, .slice none 0 0]) := hid (by rw [show K4 = w2.heap.size by omega]; rw [hw3]; exact Blk.new _ _ _)
 have LO_K4 : Hid (w.heap.size ≤ K4) := hid (by omega)
 have NE_K2_K3 : Hid (K2 ≠ K3) := hid (by omega)
 have NE_K2_K4 : Hid (K2 ≠ K4) := hid (by omega)
 have NE_K3_K4 : Hid (K3 ≠ K4) := hid (by omega)
 have HB : Hid (Below w.heap.size w w3) := hid (by rw [hw3, hw2, hw1]; exact Bl.new (Bl.new (bel_new _ _) _) _)
 replace S3 := hid (S3.out.call HB.out)
 replace SM_ := hid (SM_.out.call HB.out)
 have HW_w1 := hid hw1
 have HK_K2 := hid hK2
 have HW_w2 := hid hw2
 have HK_K3 := hid hK3
 have HW_w3 := hid hw3
 have HK_K4 := hid hK4
 clear hw1 hw2 hw3 hK2 hK3 hK4 zw1 zw2 zw3
 go_enter Tryz.func88, Tryz.ntmps88
 go_upto_region 1 with (fail)
 rw [← HW_w1.out, ← HK_K2.out, ← HK_K3.out, ← HW_w2.out, ← HK_K4.out, ← HW_w3.out]
 have cK20 := D_K2.out.cell 0
 have cK21 := D_K2.out.cell 1
 have cK22 := D_K2.out.cell 2
 have cK23 := D_K2.out.cell 3
 have cK24 := D_K2.out.cell 4
 have cK25 := D_K2.out.cell 5
 have cK30 := D_K3.out.cell 0
 have cK31 := D_K3.out.cell 1
 have cK32 := D_K3.out.cell 2
 have cK33 := D_K3.out.cell 3
 go_wp2_with fail
 have HBk := hid HB.out.size
 refine (aright0 SM_.out H1.out H0.out).mono ?_; rintro e w4 ⟨rfl, b_⟩
 clear cK20 cK21 cK22 cK23 cK24 cK25 cK30 cK31 cK32 cK33
 replace D_K2 := hid (D_K2.out.on b_)
 replace D_K3 := hid (D_K3.out.on b_)
 replace D_K4 := hid (D_K4.out.on b_)
 replace S3 := hid (S3.out.call b_)
 replace SM_ := hid (SM_.out.call b_)
 replace HB := hid (Bl.call HB.out b_)
 clear b_
 have cK20 := D_K2.out.cell 0
 have cK21 := D_K2.out.cell 1
 have cK22 := D_K2.out.cell 2
 have cK23 := D_K2.out.cell 3
 have cK24 := D_K2.out.cell 4
 have cK25 := D_K2.out.cell 5
 have cK30 := D_K3.out.cell 0
 have cK31 := D_K3.out.cell 1
 have cK32 := D_K3.out.cell 2
 have cK33 := D_K3.out.cell 3
 go_wp2_with fail
 replace HBk := hid HB.out.size
 refine (vfind_is S3.out 1 true F1.out.1 F1.out.2).mono ?_; rintro e w5 ⟨rfl, b_⟩
 clear cK20 cK21 cK22 cK23 cK24 cK25 cK30 cK31 cK32 cK33
 replace D_K2 := hid (D_K2.out.on b_)
 replace D_K3 := hid (D_K3.out.on b_)
 replace D_K4 := hid (D_K4.out.on b_)
 replace S3 := hid (S3.out.call b_)
 replace SM_ := hid (SM_.out.call b_)
 replace HB := hid (Bl.call HB.out b_)
 clear b_
 have cK20 := D_K2.out.cell 0
 have cK21 := D_K2.out.cell 1
 have cK22 := D_K2.out.cell 2
 have cK23 := D_K2.out.cell 3
 have cK24 := D_K2.out.cell 4
 have cK25 := D_K2.out.cell 5
 have cK30 := D_K3.out.cell 0
 have cK31 := D_K3.out.cell 1
 have cK32 := D_K3.out.cell 2
 have cK33 := D_K3.out.cell 3
 go_wp2_with fail
 replace HBk := hid HB.out.size
 refine (vfind_is S3.out 0 true F2.out.1 F2.out.2).mono ?_; rintro e w6 ⟨rfl, b_⟩
 clear cK20 cK21 cK22 cK23 cK24 cK25 cK30 cK31 cK32 cK33
 replace D_K2 := hid (D_K2.out.on b_)
 replace D_K3 := hid (D_K3.out.on b_)
 replace D_K4 := hid (D_K4.out.on b_)
 replace S3 := hid (S3.out.call b_)
 replace SM_ := hid (SM_.out.call b_)
 replace HB := hid (Bl.call HB.out b_)
 clear b_
 have cK20 := D_K2.out.cell 0
 have cK21 := D_K2.out.cell 1
 have cK22 := D_K2.out.cell 2
 have cK23 := D_K2.out.cell 3
 have cK24 := D_K2.out.cell 4
 have cK25 := D_K2.out.cell 5
 have cK30 := D_K3.out.cell 0
 have cK31 := D_K3.out.cell 1
 have cK32 := D_K3.out.cell 2
 have cK33 := D_K3.out.cell 3
 go_upto_region 7 with (first | (go_at_call 115; refine (asksA_3 _).mono ?_; rintro e _ ⟨rfl, rfl⟩) | (go_at_call 116; refine (asksB_3 _).mono ?_; rintro e _ ⟨rfl, rfl⟩))
 go_upto_region 9 with (fail)
 have L4 : Hid (K4 < w6.heap.size) := hid D_K4.out.lt
 go_wp2_with fail
 replace HBk := hid HB.out.size
 refine (change_ins SM_.out).mono ?_; rintro e w7 ⟨AN, cN, rfl, SN_, oN, b_⟩
 clear cK20 cK21 cK22 cK23 cK24 cK25 cK30 cK31 cK32 cK33
 replace D_K2 := hid (D_K2.out.on b_)
 replace D_K3 := hid (D_K3.out.on b_)
 replace D_K4 := hid (D_K4.out.on b_)
 replace S3 := hid (S3.out.call b_)
 replace SM_ := hid (SM_.out.call b_)
 replace HB := hid (Bl.call HB.out b_)
 have SN := hid SN_
 clear SN_
 clear b_
 have OFN : Hid (∀ K, K < w.heap.size → Off K (.slice AN 1 cN)) := hid (fun K hK => oN K (by have := HBk.out; omega))
 have OG : Hid (Off K4 (.slice AN 1 cN)) := hid (oN K4 L4.out)
 clear oN L4
 go_upto_region 10 with (fail)
 obtain ⟨w8, hw8⟩ : ∃ W, W = w7.alloc (.cells #[.int .i64 3, .int .i64 2, .int .i64 1, .slice A1 2 c1, .slice AN 1 cN, .slice A3 3 c3] 85) := ⟨_, rfl⟩
 obtain ⟨K10, hK10⟩ : ∃ K, K = w7.heap.size := ⟨_, rfl⟩
 have b_ := bel_new w7 (.cells #[.int .i64 3, .int .i64 2, .int .i64 1, .slice A1 2 c1, .slice AN 1 cN, .slice A3 3 c3] 85)
 rw [← hw8] at b_
 have D_K10 : Hid (Blk w8 K10 85 [.int .i64 3, .int .i64 2, .int .i64 1, .slice A1 2 c1, .slice AN 1 cN, .slice A3 3 c3]) := hid (by rw [hw8, hK10]; exact Blk.new _ _ _)
 have LO_K10 : Hid (w.heap.size ≤ K10) := hid (by rw [hK10]; exact HB.out.size)
 have NE_K2_K10 : Hid (K2 ≠ K10) := hid (by have := D_K2.out.lt; rw [hK10]; omega)
 have NE_K3_K10 : Hid (K3 ≠ K10) := hid (by have := D_K3.out.lt; rw [hK10]; omega)
 have NE_K4_K10 : Hid (K4 ≠ K10) := hid (by have := D_K4.out.lt; rw [hK10]; omega)
 replace D_K2 := hid (D_K2.out.on b_)
 replace D_K3 := hid (D_K3.out.on b_)
 replace D_K4 := hid (D_K4.out.on b_)
 replace S3 := hid (S3.out.call b_)
 replace SM_ := hid (SM_.out.call b_)
 replace SN := hid (SN.out.call b_)
 replace HB := hid (Bl.call HB.out b_)
 rw [← hw8, ← hK10]
 have HW_w8 := hid hw8
 have HK_K10 := hid hK10
 clear b_ hw8 hK10
 have SN3 := hid SN.out.se
 clear SN S3 SM_
 have cK100 := D_K10.out.cell 0
 have cK101 := D_K10.out.cell 1
 have cK102 := D_K10.out.cell 2
 have cK103 := D_K10.out.cell 3
 have cK104 := D_K10.out.cell 4
 have cK105 := D_K10.out.cell 5
 have cK40 := D_K4.out.cell 0
 have cK41 := D_K4.out.cell 1
 have cK42 := D_K4.out.cell 2
 have cK43 := D_K4.out.cell 3
 have cK44 := D_K4.out.cell 4
 have cK45 := D_K4.out.cell 5
 have fK40 := D_K4.out.frozen 0
 have fK41 := D_K4.out.frozen 1
 have fK42 := D_K4.out.frozen 2
 have fK43 := D_K4.out.frozen 3
 have fK44 := D_K4.out.frozen 4
 have fK45 := D_K4.out.frozen 5
 obtain ⟨w9, hw9⟩ : ∃ W, W = ((((((w8.setCell ⟨K4, 0, none⟩ (.int .i64 3)).setCell ⟨K4, 1, none⟩ (.int .i64 2)).setCell ⟨K4, 2, none⟩ (.int .i64 1)).setCell ⟨K4, 3, none⟩ (.slice A1 2 c1)).setCell ⟨K4, 4, none⟩ (.slice AN 1 cN)).setCell ⟨K4, 5, none⟩ (.slice A3 3 c3)) := ⟨_, rfl⟩
 have E_K2 : Hid (Blk w9 K2 85 [.int .i64 3, .int .i64 2, .int .i64 1, .slice A1 2 c1, .slice A2 0 c2, .slice A3 3 c3]) := hid (by rw [hw9]; exact ((((((D_K2.out).far (p := ⟨K4, 0, none⟩) NE_K2_K4.out _).far (p := ⟨K4, 1, none⟩) NE_K2_K4.out _).far (p := ⟨K4, 2, none⟩) NE_K2_K4.out _).far (p := ⟨K4, 3, none⟩) NE_K2_K4.out _).far (p := ⟨K4, 4, none⟩) NE_K2_K4.out _).far (p := ⟨K4, 5, none⟩) NE_K2_K4.out _)
 have E_K3 : Hid (Blk w9 K3 124 [.int .i64 3, .int .u64 6, .int .u64 4, .string ⟨#[]⟩]) := hid (by rw [hw9]; exact ((((((D_K3.out).far (p := ⟨K4, 0, none⟩) NE_K3_K4.out _).far (p := ⟨K4, 1, none⟩) NE_K3_K4.out _).far (p := ⟨K4, 2, none⟩) NE_K3_K4.out _).far (p := ⟨K4, 3, none⟩) NE_K3_K4.out _).far (p := ⟨K4, 4, none⟩) NE_K3_K4.out _).far (p := ⟨K4, 5, none⟩) NE_K3_K4.out _)
 have E_K4 : Hid (Blk w9 K4 85 [.int .i64 3, .int .i64 2, .int .i64 1, .slice A1 2 c1, .slice AN 1 cN, .slice A3 3 c3]) := hid (by rw [hw9]; exact ((((((D_K4.out).put 0 _).put 1 _).put 2 _).put 3 _).put 4 _).put 5 _)
 have E_K10 : Hid (Blk w9 K10 85 [.int .i64 3, .int .i64 2, .int .i64 1, .slice A1 2 c1, .slice AN 1 cN, .slice A3 3 c3]) := hid (by rw [hw9]; exact ((((((D_K10.out).far (p := ⟨K4, 0, none⟩) NE_K4_K10.out.symm _).far (p := ⟨K4, 1, none⟩) NE_K4_K10.out.symm _).far (p := ⟨K4, 2, none⟩) NE_K4_K10.out.symm _).far (p := ⟨K4, 3, none⟩) NE_K4_K10.out.symm _).far (p := ⟨K4, 4, none⟩) NE_K4_K10.out.symm _).far (p := ⟨K4, 5, none⟩) NE_K4_K10.out.symm _)
 have EB : Hid (Below w.heap.size w w9) := hid (by rw [hw9]; exact ((((((HB.out).setCell (p := ⟨K4, 0, none⟩) LO_K4.out _).setCell (p := ⟨K4, 1, none⟩) LO_K4.out _).setCell (p := ⟨K4, 2, none⟩) LO_K4.out _).setCell (p := ⟨K4, 3, none⟩) LO_K4.out _).setCell (p := ⟨K4, 4, none⟩) LO_K4.out _).setCell (p := ⟨K4, 5, none⟩) LO_K4.out _)
 have E_SN3 : Hid (Sl w9 w9.heap.size 3 (.slice AN 1 cN) 1 (eds eA)) := hid (by rw [hw9]; exact ((((((SN3.out.off OG.out).off OG.out).off OG.out).off OG.out).off OG.out).off OG.out))
 have HW_w9 := hid hw9
 clear hw9
 go_wp2
 rw [← HW_w9.out]
 clear cK100 cK101 cK102 cK103 cK104 cK105 cK40 cK41 cK42 cK43 cK44 cK45 fK40 fK41 fK42 fK43 fK44 fK45
 clear HB D_K2 D_K3 D_K4 D_K10 SN3
 have D_K2 := E_K2
 have D_K3 := E_K3
 have D_K4 := E_K4
 have D_K10 := E_K10
 have HB := EB
 have SN3 := E_SN3
 clear EB E_K2 E_K3 E_K4 E_K10 E_SN3
 have cK40 := D_K4.out.cell 0
 have cK41 := D_K4.out.cell 1
 have cK42 := D_K4.out.cell 2
 have cK43 := D_K4.out.cell 3
 have cK44 := D_K4.out.cell 4
 have cK45 := D_K4.out.cell 5
 exact bodyPost_ret (v := .tuple #[.agg #[.int .i64 3, .int .i64 2, .int .i64 1, .slice A1 2 c1, .slice AN 1 cN, .slice A3 3 c3], .iface 48 (.int .i64 0)]) (by simp [results, Tryz.results88, go_sem, cK40, cK41, cK42, cK43, cK44, cK45]) rfl ⟨_, _, rfl, ⟨HM.out.sh.call HB.out, SN3.out, HM.out.ss.call HB.out⟩, OFN.out, HB.out⟩
set_option maxHeartbeats 32000000 in
set_option maxRecDepth 100000 in
theorem do_ans {dc ka kb za zb : Int} {a b : Bool} {T : TypeId} {v : Value} (d1 : ¬ dc < 1) (d2 : ¬ 15 < dc) (d3 : 4 < dc) (d4 : (dc != 15) = true) (ha : ∀ W : World, Calls Tryz.prog 115 #[.int .i64 dc] W fun e w' => e = .returned (.bool a) ∧ W = w') (hb : ∀ W : World, Calls Tryz.prog 116 #[.int .i64 dc] W fun e w' => e = .returned (.bool b) ∧ W = w') (f1 : (fdP sA3 ka).getD 0 = za ∧ (fdP sA3 ka).isSome = a) (f2 : (fdP sA3 kb).getD 0 = zb ∧ (fdP sA3 kb).isSome = b) (hn : ∀ W : World, SM W (.slice A1 2 c1) (.slice A2 1 c2) (.slice A3 3 c3) eA sA3 → Calls Tryz.prog 117 #[.agg #[.int .i64 3, .int .i64 2, .int .i64 1, .slice A1 2 c1, .slice A2 1 c2, .slice A3 3 c3], .int .i64 dc, .int .i64 za, .int .i64 zb] W (AnsPost T v W)) (hm : SM w (.slice A1 2 c1) (.slice A2 1 c2) (.slice A3 3 c3) eA sA3) : Calls Tryz.prog 88 #[.agg #[.int .i64 3, .int .i64 2, .int .i64 1, .slice A1 2 c1, .slice A2 1 c2, .slice A3 3 c3], .agg #[.int .i64 dc, .int .u64 ka, .int .u64 kb, .string ⟨#[]⟩]] w (DoAns A1 A2 A3 c1 c2 c3 T v w) := by
 have HM := hid hm
 have SM_ := hid hm
 have S3 := hid hm.ss
 have F1 := hid f1
 have F2 := hid f2
 have HA := hid ha
 have HB0 := hid hb
 have HN := hid hn
 clear hm f1 f2 ha hb hn
 cases a <;> cases b
 all_goals
  obtain ⟨w1, hw1⟩ : ∃ W, W = w.alloc (.cells #[.int .i64 3, .int .i64 2, .int .i64 1, .slice A1 2 c1, .slice A2 1 c2, .slice A3 3 c3] 85) := ⟨_, rfl⟩
  obtain ⟨K2, hK2⟩ : ∃ K, K = w.heap.size := ⟨_, rfl⟩
  obtain ⟨w2, hw2⟩ : ∃ W, W = w1.alloc (.cells #[.int .i64 dc, .int .u64 ka, .int .u64 kb, .string ⟨#[]⟩] 124) := ⟨_, rfl⟩
  obtain ⟨K3, hK3⟩ : ∃ K, K = K2 + 1 := ⟨_, rfl⟩
  obtain ⟨w3, hw3⟩ : ∃ W, W = w2.alloc (.cells #[.int .i64 0, .int .i64 0, .int .i64 0, .slice none 0 0, .slice none 0 0, .slice none 0 0] 85) := ⟨_, rfl⟩
  obtain ⟨K4, hK4⟩ : ∃ K, K = K3 + 1 := ⟨_, rfl⟩
  have zw1 : w1.heap.size = K2 + 1 := by rw [hw1, hK2]; simp
  have zw2 : w2.heap.size = K2 + 2 := by rw [hw2]; simp; exact zw1
  have zw3 : w3.heap.size = K2 + 3 := by rw [hw3]; simp; exact zw2
  have D_K2 : Hid (Blk w3 K2 85 [.int .i64 3, .int .i64 2, .int .i64 1, .slice A1 2 c1, .slice A2 1 c2, .slice A3 3 c3]) := hid (by rw [hK2]; rw [hw3, hw2, hw1]; exact ((Blk.new _ _ _).alloc _).alloc _)
  have LO_K2 : Hid (w.heap.size ≤ K2) := hid (by omega)
  have D_K3 : Hid (Blk w3 K3 124 [.int .i64 dc, .int .u64 ka, .int .u64 kb, .string ⟨#[]⟩]) := hid (by rw [show K3 = w1.heap.size by omega]; rw [hw3, hw2]; exact (Blk.new _ _ _).alloc _)
  have LO_K3 : Hid (w.heap.size ≤ K3) := hid (by omega)
  have D_K4 : Hid (Blk w3 K4 85 [.int .i64 0, .int .i64 0, .int .i64 0, .slice none 0 0, .slice none 0 0, .slice none 0 0]) := hid (by rw [show K4 = w2.heap.size by omega]; rw [hw3]; exact Blk.new _ _ _)
  have LO_K4 : Hid (w.heap.size ≤ K4) := hid (by omega)
  have NE_K2_K3 : Hid (K2 ≠ K3) := hid (by omega)
  have NE_K2_K4 : Hid (K2 ≠ K4) := hid (by omega)
  have NE_K3_K4 : Hid (K3 ≠ K4) := hid (by omega)
  have HB : Hid (Below w.heap.size w w3) := hid (by rw [hw3, hw2, hw1]; exact Bl.new (Bl.new (bel_new _ _) _) _)
  replace S3 := hid (S3.out.call HB.out)
  replace SM_ := hid (SM_.out.call HB.out)
  have HW_w1 := hid hw1
  have HK_K2 := hid hK2
  have HW_w2 := hid hw2
  have HK_K3 := hid hK3
  have HW_w3 := hid hw3
  have HK_K4 := hid hK4
  clear hw1 hw2 hw3 hK2 hK3 hK4 zw1 zw2 zw3
  go_enter Tryz.func88, Tryz.ntmps88
  go_upto_region 1 with (fail)
  rw [← HW_w1.out, ← HK_K2.out, ← HK_K3.out, ← HW_w2.out, ← HK_K4.out, ← HW_w3.out]
  have cK20 := D_K2.out.cell 0
  have cK21 := D_K2.out.cell 1
  have cK22 := D_K2.out.cell 2
  have cK23 := D_K2.out.cell 3
  have cK24 := D_K2.out.cell 4
  have cK25 := D_K2.out.cell 5
  have cK30 := D_K3.out.cell 0
  have cK31 := D_K3.out.cell 1
  have cK32 := D_K3.out.cell 2
  have cK33 := D_K3.out.cell 3
  go_wp2_with fail
  have HBk := hid HB.out.size
  refine (aright1 SM_.out).mono ?_; rintro e w4 ⟨rfl, b_⟩
  clear cK20 cK21 cK22 cK23 cK24 cK25 cK30 cK31 cK32 cK33
  replace D_K2 := hid (D_K2.out.on b_)
  replace D_K3 := hid (D_K3.out.on b_)
  replace D_K4 := hid (D_K4.out.on b_)
  replace S3 := hid (S3.out.call b_)
  replace SM_ := hid (SM_.out.call b_)
  replace HB := hid (Bl.call HB.out b_)
  clear b_
  have cK20 := D_K2.out.cell 0
  have cK21 := D_K2.out.cell 1
  have cK22 := D_K2.out.cell 2
  have cK23 := D_K2.out.cell 3
  have cK24 := D_K2.out.cell 4
  have cK25 := D_K2.out.cell 5
  have cK30 := D_K3.out.cell 0
  have cK31 := D_K3.out.cell 1
  have cK32 := D_K3.out.cell 2
  have cK33 := D_K3.out.cell 3
  go_wp2_with fail
  replace HBk := hid HB.out.size
  refine (vfind_is S3.out za _ F1.out.1 F1.out.2).mono ?_; rintro e w5 ⟨rfl, b_⟩
  clear cK20 cK21 cK22 cK23 cK24 cK25 cK30 cK31 cK32 cK33
  replace D_K2 := hid (D_K2.out.on b_)
  replace D_K3 := hid (D_K3.out.on b_)
  replace D_K4 := hid (D_K4.out.on b_)
  replace S3 := hid (S3.out.call b_)
  replace SM_ := hid (SM_.out.call b_)
  replace HB := hid (Bl.call HB.out b_)
  clear b_
  have cK20 := D_K2.out.cell 0
  have cK21 := D_K2.out.cell 1
  have cK22 := D_K2.out.cell 2
  have cK23 := D_K2.out.cell 3
  have cK24 := D_K2.out.cell 4
  have cK25 := D_K2.out.cell 5
  have cK30 := D_K3.out.cell 0
  have cK31 := D_K3.out.cell 1
  have cK32 := D_K3.out.cell 2
  have cK33 := D_K3.out.cell 3
  go_wp2_with fail
  replace HBk := hid HB.out.size
  refine (vfind_is S3.out zb _ F2.out.1 F2.out.2).mono ?_; rintro e w6 ⟨rfl, b_⟩
  clear cK20 cK21 cK22 cK23 cK24 cK25 cK30 cK31 cK32 cK33
  replace D_K2 := hid (D_K2.out.on b_)
  replace D_K3 := hid (D_K3.out.on b_)
  replace D_K4 := hid (D_K4.out.on b_)
  replace S3 := hid (S3.out.call b_)
  replace SM_ := hid (SM_.out.call b_)
  replace HB := hid (Bl.call HB.out b_)
  clear b_
  have cK20 := D_K2.out.cell 0
  have cK21 := D_K2.out.cell 1
  have cK22 := D_K2.out.cell 2
  have cK23 := D_K2.out.cell 3
  have cK24 := D_K2.out.cell 4
  have cK25 := D_K2.out.cell 5
  have cK30 := D_K3.out.cell 0
  have cK31 := D_K3.out.cell 1
  have cK32 := D_K3.out.cell 2
  have cK33 := D_K3.out.cell 3
  go_upto_region 8 with (first | (go_at_call 115; refine (HA.out _).mono ?_; rintro e _ ⟨rfl, rfl⟩) | (go_at_call 116; refine (HB0.out _).mono ?_; rintro e _ ⟨rfl, rfl⟩))
  refine wp_region_held_drew (S := fun w' => w'.cell? ⟨K2, 0, none⟩ = some (.int .i64 3) ∧ w'.cell? ⟨K2, 1, none⟩ = some (.int .i64 2) ∧ w'.cell? ⟨K2, 2, none⟩ = some (.int .i64 1) ∧ w'.cell? ⟨K2, 3, none⟩ = some (.slice A1 2 c1) ∧ w'.cell? ⟨K2, 4, none⟩ = some (.slice A2 1 c2) ∧ w'.cell? ⟨K2, 5, none⟩ = some (.slice A3 3 c3) ∧ w'.cell? ⟨K3, 0, none⟩ = some (.int .i64 dc) ∧ w'.cell? ⟨K3, 1, none⟩ = some (.int .u64 ka) ∧ w'.cell? ⟨K3, 2, none⟩ = some (.int .u64 kb) ∧ w'.cell? ⟨K3, 3, none⟩ = some (.string ⟨#[]⟩)) (by kernel_rfl) ⟨D_K2.out.cell 0, D_K2.out.cell 1, D_K2.out.cell 2, D_K2.out.cell 3, D_K2.out.cell 4, D_K2.out.cell 5, D_K3.out.cell 0, D_K3.out.cell 1, D_K3.out.cell 2, D_K3.out.cell 3⟩ (fun hHeld => ?_)
  clear cK20 cK21 cK22 cK23 cK24 cK25 cK30 cK31 cK32 cK33
  refine wpAnyH_take (i := 0) (oi := _) (v := ?_) rfl (by kernel_rfl) (by kernel_rfl) (by kernel_rfl) (fun _ _ _ h => h) (.inl ⟨by rfl, ?_⟩) (by assumption) ?_
  rotate_left
  · intro w hSw; obtain ⟨y0, y1, y2, y3, y4, y5, y6, y7, y8, y9⟩ := hSw; go_simp; try (with_reducible rfl)
  (try simp only [Act.put, putL])
  refine wpAnyH_take (i := 1) (oi := _) (v := ?_) rfl (by kernel_rfl) (by kernel_rfl) (by kernel_rfl) (fun _ _ _ h => h) (.inl ⟨by rfl, ?_⟩) (by assumption) ?_
  rotate_left
  · intro w hSw; obtain ⟨y0, y1, y2, y3, y4, y5, y6, y7, y8, y9⟩ := hSw; go_simp; try (with_reducible rfl)
  (try simp only [Act.put, putL])
  refine wpAnyH_take (i := 2) (oi := _) (v := ?_) rfl (by kernel_rfl) (by kernel_rfl) (by kernel_rfl) (fun _ _ _ h => h) (.inl ⟨by rfl, ?_⟩) (by assumption) ?_
  rotate_left
  · intro w hSw; obtain ⟨y0, y1, y2, y3, y4, y5, y6, y7, y8, y9⟩ := hSw; go_simp; try (with_reducible rfl)
  (try simp only [Act.put, putL])
  refine wpAnyH_take (i := 3) (oi := _) (v := ?_) rfl (by kernel_rfl) (by kernel_rfl) (by kernel_rfl) (fun _ _ _ h => h) (.inl ⟨by rfl, ?_⟩) (by assumption) ?_
  rotate_left
  · intro w hSw; obtain ⟨y0, y1, y2, y3, y4, y5, y6, y7, y8, y9⟩ := hSw; go_simp; try (with_reducible rfl)
  (try simp only [Act.put, putL])
  refine wpAnyH_take (i := 4) (oi := _) (v := ?_) rfl (by kernel_rfl) (by kernel_rfl) (by kernel_rfl) (fun _ _ _ h => h) (.inl ⟨by rfl, ?_⟩) (by assumption) ?_
  rotate_left
  · intro w hSw; obtain ⟨y0, y1, y2, y3, y4, y5, y6, y7, y8, y9⟩ := hSw; go_simp; try (with_reducible rfl)
  (try simp only [Act.put, putL])
  refine wpAnyH_take (i := 5) (oi := _) (v := ?_) rfl (by kernel_rfl) (by kernel_rfl) (by kernel_rfl) (fun _ _ _ h => h) (.inl ⟨by rfl, ?_⟩) (by assumption) ?_
  rotate_left
  · intro w hSw; obtain ⟨y0, y1, y2, y3, y4, y5, y6, y7, y8, y9⟩ := hSw; go_simp; try (with_reducible rfl)
  (try simp only [Act.put, putL])
  refine wpAnyH_ready (rs := [6]) (by kernel_rfl) (by simp) ?_
  refine AllReadyH.cons (o := _) rfl (fun K hK => ?_) ?_
  ·
   go_simp
   go_at_call 117
   replace HBk := hid HB.out.size
   refine (HN.out _ (SM_.out.cqt (qt_drew _))).mono ?_; rintro e w7 ⟨rfl, b0_⟩
   have b_ : Below w6.heap.size w6 w7 := Bl.call (Bl.qt (Below.refl _ _) (qt_drew _)) b0_
   replace D_K2 := hid (D_K2.out.on b_)
   replace D_K3 := hid (D_K3.out.on b_)
   replace D_K4 := hid (D_K4.out.on b_)
   replace S3 := hid (S3.out.call b_)
   replace SM_ := hid (SM_.out.call b_)
   replace HB := hid (Bl.call HB.out b_)
   clear b_ b0_
   refine hK.out _ _ ?_ (fun hHeld => ?_)
   · exact ⟨D_K2.out.cell 0, D_K2.out.cell 1, D_K2.out.cell 2, D_K2.out.cell 3, D_K2.out.cell 4, D_K2.out.cell 5, D_K3.out.cell 0, D_K3.out.cell 1, D_K3.out.cell 2, D_K3.out.cell 3⟩
   clear hK K
   (try simp only [Act.put, putL])
   have cK40 := D_K4.out.cell 0
   have cK41 := D_K4.out.cell 1
   have cK42 := D_K4.out.cell 2
   have cK43 := D_K4.out.cell 3
   have cK44 := D_K4.out.cell 4
   have cK45 := D_K4.out.cell 5
   have fK40 := D_K4.out.frozen 0
   have fK41 := D_K4.out.frozen 1
   have fK42 := D_K4.out.frozen 2
   have fK43 := D_K4.out.frozen 3
   have fK44 := D_K4.out.frozen 4
   have fK45 := D_K4.out.frozen 5
   obtain ⟨w8, hw8⟩ : ∃ W, W = ((((((w7.setCell ⟨K4, 0, none⟩ (.int .i64 3)).setCell ⟨K4, 1, none⟩ (.int .i64 2)).setCell ⟨K4, 2, none⟩ (.int .i64 1)).setCell ⟨K4, 3, none⟩ (.slice A1 2 c1)).setCell ⟨K4, 4, none⟩ (.slice A2 1 c2)).setCell ⟨K4, 5, none⟩ (.slice A3 3 c3)) := ⟨_, rfl⟩
   have E_K2 : Hid (Blk w8 K2 85 [.int .i64 3, .int .i64 2, .int .i64 1, .slice A1 2 c1, .slice A2 1 c2, .slice A3 3 c3]) := hid (by rw [hw8]; exact ((((((D_K2.out).far (p := ⟨K4, 0, none⟩) NE_K2_K4.out _).far (p := ⟨K4, 1, none⟩) NE_K2_K4.out _).far (p := ⟨K4, 2, none⟩) NE_K2_K4.out _).far (p := ⟨K4, 3, none⟩) NE_K2_K4.out _).far (p := ⟨K4, 4, none⟩) NE_K2_K4.out _).far (p := ⟨K4, 5, none⟩) NE_K2_K4.out _)
   have E_K3 : Hid (Blk w8 K3 124 [.int .i64 dc, .int .u64 ka, .int .u64 kb, .string ⟨#[]⟩]) := hid (by rw [hw8]; exact ((((((D_K3.out).far (p := ⟨K4, 0, none⟩) NE_K3_K4.out _).far (p := ⟨K4, 1, none⟩) NE_K3_K4.out _).far (p := ⟨K4, 2, none⟩) NE_K3_K4.out _).far (p := ⟨K4, 3, none⟩) NE_K3_K4.out _).far (p := ⟨K4, 4, none⟩) NE_K3_K4.out _).far (p := ⟨K4, 5, none⟩) NE_K3_K4.out _)
   have E_K4 : Hid (Blk w8 K4 85 [.int .i64 3, .int .i64 2, .int .i64 1, .slice A1 2 c1, .slice A2 1 c2, .slice A3 3 c3]) := hid (by rw [hw8]; exact ((((((D_K4.out).put 0 _).put 1 _).put 2 _).put 3 _).put 4 _).put 5 _)
   have EB : Hid (Below w.heap.size w w8) := hid (by rw [hw8]; exact ((((((HB.out).setCell (p := ⟨K4, 0, none⟩) LO_K4.out _).setCell (p := ⟨K4, 1, none⟩) LO_K4.out _).setCell (p := ⟨K4, 2, none⟩) LO_K4.out _).setCell (p := ⟨K4, 3, none⟩) LO_K4.out _).setCell (p := ⟨K4, 4, none⟩) LO_K4.out _).setCell (p := ⟨K4, 5, none⟩) LO_K4.out _)
   have HW_w8 := hid hw8
   clear hw8
   refine wpAnyH_ready (rs := [7]) (by kernel_rfl) (by simp) ?_
   refine AllReadyH.cons (o := _) rfl (fun K hK => ?_) ?_
   ·
    go_simp
    rw [← HW_w8.out]
    refine hK.out _ _ ?_ (fun hHeld => ?_)
    · exact ⟨E_K2.out.cell 0, E_K2.out.cell 1, E_K2.out.cell 2, E_K2.out.cell 3, E_K2.out.cell 4, E_K2.out.cell 5, E_K3.out.cell 0, E_K3.out.cell 1, E_K3.out.cell 2, E_K3.out.cell 3⟩
    clear hK K
    (try simp only [Act.put, putL])
    clear cK40 cK41 cK42 cK43 cK44 cK45 fK40 fK41 fK42 fK43 fK44 fK45
    clear HB D_K2 D_K3 D_K4
    have D_K2 := E_K2
    have D_K3 := E_K3
    have D_K4 := E_K4
    have HB := EB
    clear EB E_K2 E_K3 E_K4
    refine wpAnyH_take (i := 8) (oi := _) (v := ?_) rfl (by kernel_rfl) (by kernel_rfl) (by kernel_rfl) (fun _ _ _ h => h) (.inl ⟨by rfl, ?_⟩) (by assumption) ?_
    rotate_left
    · intro w hSw; obtain ⟨y0, y1, y2, y3, y4, y5, y6, y7, y8, y9⟩ := hSw; go_simp; try (with_reducible rfl)
    (try simp only [Act.put, putL])
    refine wpAnyH_done (by kernel_rfl) ?_ _
    have cK40 := D_K4.out.cell 0
    have cK41 := D_K4.out.cell 1
    have cK42 := D_K4.out.cell 2
    have cK43 := D_K4.out.cell 3
    have cK44 := D_K4.out.cell 4
    have cK45 := D_K4.out.cell 5
    go_wp2
    exact bodyPost_ret (v := .tuple #[.agg #[.int .i64 3, .int .i64 2, .int .i64 1, .slice A1 2 c1, .slice A2 1 c2, .slice A3 3 c3], .iface T v]) (by simp [results, Tryz.results88, go_sem, cK40, cK41, cK42, cK43, cK44, cK45]) rfl ⟨rfl, HB.out⟩
   exact AllReadyH.nil
  exact AllReadyH.nil
theorem do_conn1 (hm : SM w (.slice A1 2 c1) (.slice A2 1 c2) (.slice A3 3 c3) eA sA3) : Calls Tryz.prog 88 #[.agg #[.int .i64 3, .int .i64 2, .int .i64 1, .slice A1 2 c1, .slice A2 1 c2, .slice A3 3 c3], .agg #[.int .i64 8, .int .u64 4, .int .u64 6, .string ⟨#[]⟩]] w (DoAns A1 A2 A3 c1 c2 c3 4 (.bool true) w) :=
 do_ans (by omega) (by omega) (by omega) (by decide) asksA_8 asksB_8 (show (fdP sA3 4).getD 0 = 0 ∧ (fdP sA3 4).isSome = true from by decide +kernel) (show (fdP sA3 6).getD 0 = 1 ∧ (fdP sA3 6).isSome = true from by decide +kernel) (fun _ h => ans_conn1 h) hm
theorem do_conn2 (hm : SM w (.slice A1 2 c1) (.slice A2 1 c2) (.slice A3 3 c3) eA sA3) : Calls Tryz.prog 88 #[.agg #[.int .i64 3, .int .i64 2, .int .i64 1, .slice A1 2 c1, .slice A2 1 c2, .slice A3 3 c3], .agg #[.int .i64 8, .int .u64 4, .int .u64 8, .string ⟨#[]⟩]] w (DoAns A1 A2 A3 c1 c2 c3 4 (.bool false) w) :=
 do_ans (by omega) (by omega) (by omega) (by decide) asksA_8 asksB_8 (show (fdP sA3 4).getD 0 = 0 ∧ (fdP sA3 4).isSome = true from by decide +kernel) (show (fdP sA3 8).getD 0 = 2 ∧ (fdP sA3 8).isSome = true from by decide +kernel) (fun _ h => ans_conn2 h) hm
theorem do_audit (hm : SM w (.slice A1 2 c1) (.slice A2 1 c2) (.slice A3 3 c3) eA sA3) : Calls Tryz.prog 88 #[.agg #[.int .i64 3, .int .i64 2, .int .i64 1, .slice A1 2 c1, .slice A2 1 c2, .slice A3 3 c3], .agg #[.int .i64 13, .int .u64 0, .int .u64 0, .string ⟨#[]⟩]] w (DoAns A1 A2 A3 c1 c2 c3 4 (.bool true) w) :=
 do_ans (by omega) (by omega) (by omega) (by decide) asksA_13 asksB_13 (show (fdP sA3 0).getD 0 = 0 ∧ (fdP sA3 0).isSome = false from by decide +kernel) (show (fdP sA3 0).getD 0 = 0 ∧ (fdP sA3 0).isSome = false from by decide +kernel) (fun _ h => ans_audit h) hm
theorem do_size (hm : SM w (.slice A1 2 c1) (.slice A2 1 c2) (.slice A3 3 c3) eA sA3) : Calls Tryz.prog 88 #[.agg #[.int .i64 3, .int .i64 2, .int .i64 1, .slice A1 2 c1, .slice A2 1 c2, .slice A3 3 c3], .agg #[.int .i64 9, .int .u64 6, .int .u64 0, .string ⟨#[]⟩]] w (DoAns A1 A2 A3 c1 c2 c3 3 (.int .i64 2) w) :=
 do_ans (by omega) (by omega) (by omega) (by decide) asksA_9 asksB_9 (show (fdP sA3 6).getD 0 = 1 ∧ (fdP sA3 6).isSome = true from by decide +kernel) (show (fdP sA3 0).getD 0 = 0 ∧ (fdP sA3 0).isSome = false from by decide +kernel) (fun _ h => ans_size h) hm
end Go.Proofs.YtahodfikhocobaaGreatDoor
namespace Go.Proofs.YtahodfikhocobaaGreatDoor
open Go.RowKit
set_option linter.unusedVariables false
set_option linter.unusedSimpArgs false
attribute [local go_sem ↓] Go.wp_at_zero Go.wp_at_succ
theorem tellb_ok (w : World) : Calls Tryz.prog 37 #[.iface 48 (.int .i64 0)] w fun e w' => e = .returned (.string ⟨#[111, 107]⟩) ∧ Below w.heap.size w w' := (tell_ok w).mono fun e w' h => by
 obtain ⟨rfl, rfl⟩ := h
 exact ⟨rfl, Below.refl _ _⟩
theorem tellb_yes (w : World) : Calls Tryz.prog 37 #[.iface 4 (.bool true)] w fun e w' => e = .returned (.string ⟨#[121, 101, 115]⟩) ∧ Below w.heap.size w w' := (tell_yes w).mono fun e w' h => by
 obtain ⟨rfl, rfl⟩ := h
 exact ⟨rfl, Below.refl _ _⟩
theorem tellb_no (w : World) : Calls Tryz.prog 37 #[.iface 4 (.bool false)] w fun e w' => e = .returned (.string ⟨#[110, 111]⟩) ∧ Below w.heap.size w w' := (tell_no w).mono fun e w' h => by
 obtain ⟨rfl, rfl⟩ := h
 exact ⟨rfl, Below.refl _ _⟩
theorem tellb_2 (w : World) : Calls Tryz.prog 37 #[.iface 3 (.int .i64 2)] w fun e w' => e = .returned (.string ⟨#[50]⟩) ∧ Below w.heap.size w w' := (tell_2 w).mono fun e w' h => by
 obtain ⟨rfl, rfl⟩ := h
 exact ⟨rfl, Below.refl _ _⟩
variable {A1 A2 A3 Aw : Option Addr} {c1 c2 c3 cw : Nat} {w : World}
abbrev seN (A1 : Option Addr) (c1 : Nat) (A2 : Option Addr) (n2 c2 : Nat) (A3 : Option Addr) (c3 : Nat) (Aw : Option Addr) (cw : Nat) : Value := .agg #[.int .i64 3, .int .i64 2, .int .i64 1, .slice A1 2 c1, .slice A2 n2 c2, .slice A3 3 c3, .slice Aw 4 cw, .int .i64 4, .bool true]
def LnAdd (A1 A2 Aw : Option Addr) (c1 c2 cw : Nat) (ss : List (Bool × Int)) (w : World) (e : Ending) (w' : World) : Prop := ∃ A c, e = .returned (.tuple #[seN A1 c1 A2 0 c2 A c Aw cw, .string ⟨#[111, 107]⟩]) ∧ SM w' (.slice A1 2 c1) (.slice A2 0 c2) (.slice A 3 c) [] ss ∧ (∀ K, K < w.heap.size → Off K (.slice A 3 c)) ∧ Below w.heap.size w w'
def LnIns (A1 A3 Aw : Option Addr) (c1 c3 cw : Nat) (w : World) (e : Ending) (w' : World) : Prop := ∃ A c, e = .returned (.tuple #[seN A1 c1 A 1 c A3 c3 Aw cw, .string ⟨#[111, 107]⟩]) ∧ SM w' (.slice A1 2 c1) (.slice A 1 c) (.slice A3 3 c3) eA sA3 ∧ (∀ K, K < w.heap.size → Off K (.slice A 1 c)) ∧ Below w.heap.size w w'
def LnAns (A1 A2 A3 Aw : Option Addr) (c1 c2 c3 cw : Nat) (s : ByteArray) (w : World) (e : Ending) (w' : World) : Prop := e = .returned (.tuple #[seN A1 c1 A2 1 c2 A3 c3 Aw cw, .string s]) ∧ Below w.heap.size w w'
set_option maxHeartbeats 16000000 in
set_option maxRecDepth 100000 in
theorem done_add {ss : List (Bool × Int)} {k : Int} {j : Nat} (hm : SM w (.slice A1 2 c1) (.slice A2 0 c2) (.slice A3 3 c3) [] ss) (h0 : ss.length = 3) (h1 : Vt.Ok ss) (h2 : Vt.fn ss k = none) (h3 : Vt.ff ss = some j) (f1 : (fdP ss k).getD 0 = 0 ∧ (fdP ss k).isSome = false) (f2 : (fdP ss 0).getD 0 = 0 ∧ (fdP ss 0).isSome = false) : Calls Tryz.prog 65 #[seN A1 c1 A2 0 c2 A3 c3 Aw cw, .agg #[.int .i64 1, .int .u64 k, .int .u64 0, .string ⟨#[]⟩]] w (LnAdd A1 A2 Aw c1 c2 cw (ss.set j (true, k)) w) := by
 unfold seN
 have HM := hid hm
 have SM_ := hid hm
 clear hm
 have H1 := hid h1
 have H2 := hid h2
 have H3 := hid h3
 have H0 := hid h0
 have F1 := hid f1
 have F2 := hid f2
 clear h1 h2 h3 h0 f1 f2
 obtain ⟨w1, hw1⟩ : ∃ W, W = w.alloc (.cells #[.int .i64 3, .int .i64 2, .int .i64 1, .slice A1 2 c1, .slice A2 0 c2, .slice A3 3 c3, .slice Aw 4 cw, .int .i64 4, .bool true] 87) := ⟨_, rfl⟩
 obtain ⟨K2, hK2⟩ : ∃ K, K = w.heap.size := ⟨_, rfl⟩
 obtain ⟨w2, hw2⟩ : ∃ W, W = w1.alloc (.cells #[.int .i64 1, .int .u64 k, .int .u64 0, .string ⟨#[]⟩] 124) := ⟨_, rfl⟩
 obtain ⟨K3, hK3⟩ : ∃ K, K = K2 + 1 := ⟨_, rfl⟩
 obtain ⟨w3, hw3⟩ : ∃ W, W = w2.alloc (.cells #[.int .i64 0, .int .i64 0, .int .i64 0, .slice none 0 0, .slice none 0 0, .slice none 0 0, .slice none 0 0, .int .i64 0, .bool false] 87) := ⟨_, rfl⟩
 obtain ⟨K4, hK4⟩ : ∃ K, K = K3 + 1 := ⟨_, rfl⟩
 have zw1 : w1.heap.size = K2 + 1 := by rw [hw1, hK2]; simp
 have zw2 : w2.heap.size = K2 + 2 := by rw [hw2]; simp; exact zw1
 have zw3 : w3.heap.size = K2 + 3 := by rw [hw3]; simp; exact zw2
 have D_K2 : Hid (Blk w3 K2 87 [.int .i64 3, .int .i64 2, .int .i64 1, .slice A1 2 c1, .slice A2 0 c2, .slice A3 3 c3, .slice Aw 4 cw, .int .i64 4, .bool true]) := hid (by rw [hK2]; rw [hw3, hw2, hw1]; exact ((Blk.new _ _ _).alloc _).alloc _)
 have LO_K2 : Hid (w.heap.size ≤ K2) := hid (by omega)
 have D_K3 : Hid (Blk w3 K3 124 [.int .i64 1, .int .u64 k, .int .u64 0, .string ⟨#[]⟩]) := hid (by rw [show K3 = w1.heap.size by omega]; rw [hw3, hw2]; exact (Blk.new _ _ _).alloc _)
 have LO_K3 : Hid (w.heap.size ≤ K3) := hid (by omega)
 have D_K4 : Hid (Blk w3 K4 87 [.int .i64 0, .int .i64 0, .int .i64 0, .slice none 0 0, .slice none 0 0, .slice none 0 0, .slice none 0 0, .int .i64 0, .bool false]) := hid (by rw [show K4 = w2.heap.size by omega]; rw [hw3]; exact Blk.new _ _ _)
 have LO_K4 : Hid (w.heap.size ≤ K4) := hid (by omega)
 have NE_K2_K3 : Hid (K2 ≠ K3) := hid (by omega)
 have NE_K2_K4 : Hid (K2 ≠ K4) := hid (by omega)
 have NE_K3_K4 : Hid (K3 ≠ K4) := hid (by omega)
 have HB : Hid (Below w.heap.size w w3) := hid (by rw [hw3, hw2, hw1]; exact Bl.new (Bl.new (bel_new _ _) _) _)
 replace SM_ := hid (SM_.out.call HB.out)
 have HW_w1 := hid hw1
 have HK_K2 := hid hK2
 have HW_w2 := hid hw2
 have HK_K3 := hid hK3
 have HW_w3 := hid hw3
 have HK_K4 := hid hK4
 clear hw1 hw2 hw3 hK2 hK3 hK4 zw1 zw2 zw3
 go_enter Tryz.func65, Tryz.ntmps65
 go_upto_region 1 with (fail)
 rw [← HW_w1.out, ← HK_K2.out, ← HK_K3.out, ← HW_w2.out, ← HK_K4.out, ← HW_w3.out]
 have cK20 := D_K2.out.cell 0
 have cK21 := D_K2.out.cell 1
 have cK22 := D_K2.out.cell 2
 have cK23 := D_K2.out.cell 3
 have cK24 := D_K2.out.cell 4
 have cK25 := D_K2.out.cell 5
 have cK26 := D_K2.out.cell 6
 have cK27 := D_K2.out.cell 7
 have cK28 := D_K2.out.cell 8
 have cK30 := D_K3.out.cell 0
 have cK31 := D_K3.out.cell 1
 have cK32 := D_K3.out.cell 2
 have cK33 := D_K3.out.cell 3
 have L4 : Hid (K2 < w3.heap.size ∧ K4 < w3.heap.size) := hid ⟨D_K2.out.lt, D_K4.out.lt⟩
 go_wp2_with fail
 have HBk := hid HB.out.size
 refine (do_add SM_.out H0.out H1.out H2.out H3.out F1.out F2.out).mono ?_; rintro e w4 ⟨AN, cN, rfl, SN_, oN, b_⟩
 clear cK20 cK21 cK22 cK23 cK24 cK25 cK26 cK27 cK28 cK30 cK31 cK32 cK33
 replace D_K2 := hid (D_K2.out.on b_)
 replace D_K3 := hid (D_K3.out.on b_)
 replace D_K4 := hid (D_K4.out.on b_)
 replace SM_ := hid (SM_.out.call b_)
 replace HB := hid (Bl.call HB.out b_)
 have SN := hid SN_
 clear SN_
 clear b_
 have OFN : Hid (∀ K, K < w.heap.size → Off K (.slice AN 3 cN)) := hid (fun K hK => oN K (by have := HBk.out; omega))
 have OG : Hid (Off K2 (.slice AN 3 cN) ∧ Off K4 (.slice AN 3 cN)) := hid ⟨oN K2 L4.out.1, oN K4 L4.out.2⟩
 clear oN L4
 go_upto_region 4 with (fail)
 obtain ⟨w5, hw5⟩ : ∃ W, W = w4.alloc (.cells #[.int .i64 3, .int .i64 2, .int .i64 1, .slice A1 2 c1, .slice A2 0 c2, .slice AN 3 cN] 85) := ⟨_, rfl⟩
 obtain ⟨K6, hK6⟩ : ∃ K, K = w4.heap.size := ⟨_, rfl⟩
 have b_ := bel_new w4 (.cells #[.int .i64 3, .int .i64 2, .int .i64 1, .slice A1 2 c1, .slice A2 0 c2, .slice AN 3 cN] 85)
 rw [← hw5] at b_
 have D_K6 : Hid (Blk w5 K6 85 [.int .i64 3, .int .i64 2, .int .i64 1, .slice A1 2 c1, .slice A2 0 c2, .slice AN 3 cN]) := hid (by rw [hw5, hK6]; exact Blk.new _ _ _)
 have LO_K6 : Hid (w.heap.size ≤ K6) := hid (by rw [hK6]; exact HB.out.size)
 have NE_K2_K6 : Hid (K2 ≠ K6) := hid (by have := D_K2.out.lt; rw [hK6]; omega)
 have NE_K3_K6 : Hid (K3 ≠ K6) := hid (by have := D_K3.out.lt; rw [hK6]; omega)
 have NE_K4_K6 : Hid (K4 ≠ K6) := hid (by have := D_K4.out.lt; rw [hK6]; omega)
 replace D_K2 := hid (D_K2.out.on b_)
 replace D_K3 := hid (D_K3.out.on b_)
 replace D_K4 := hid (D_K4.out.on b_)
 replace SM_ := hid (SM_.out.call b_)
 replace SN := hid (SN.out.call b_)
 replace HB := hid (Bl.call HB.out b_)
 rw [← hw5, ← hK6]
 have HW_w5 := hid hw5
 have HK_K6 := hid hK6
 clear b_ hw5 hK6
 have SN3 := hid SN.out.ss
 clear SN SM_
 have cK60 := D_K6.out.cell 0
 have cK61 := D_K6.out.cell 1
 have cK62 := D_K6.out.cell 2
 have cK63 := D_K6.out.cell 3
 have cK64 := D_K6.out.cell 4
 have cK65 := D_K6.out.cell 5
 have cK20 := D_K2.out.cell 0
 have cK21 := D_K2.out.cell 1
 have cK22 := D_K2.out.cell 2
 have cK23 := D_K2.out.cell 3
 have cK24 := D_K2.out.cell 4
 have cK25 := D_K2.out.cell 5
 have cK26 := D_K2.out.cell 6
 have cK27 := D_K2.out.cell 7
 have cK28 := D_K2.out.cell 8
 have fK20 := D_K2.out.frozen 0
 have fK21 := D_K2.out.frozen 1
 have fK22 := D_K2.out.frozen 2
 have fK23 := D_K2.out.frozen 3
 have fK24 := D_K2.out.frozen 4
 have fK25 := D_K2.out.frozen 5
 have fK26 := D_K2.out.frozen 6
 have fK27 := D_K2.out.frozen 7
 have fK28 := D_K2.out.frozen 8
 obtain ⟨w6, hw6⟩ : ∃ W, W = ((((((w5.setCell ⟨K2, 0, none⟩ (.int .i64 3)).setCell ⟨K2, 1, none⟩ (.int .i64 2)).setCell ⟨K2, 2, none⟩ (.int .i64 1)).setCell ⟨K2, 3, none⟩ (.slice A1 2 c1)).setCell ⟨K2, 4, none⟩ (.slice A2 0 c2)).setCell ⟨K2, 5, none⟩ (.slice AN 3 cN)) := ⟨_, rfl⟩
 have E_K2 : Hid (Blk w6 K2 87 [.int .i64 3, .int .i64 2, .int .i64 1, .slice A1 2 c1, .slice A2 0 c2, .slice AN 3 cN, .slice Aw 4 cw, .int .i64 4, .bool true]) := hid (by rw [hw6]; exact ((((((D_K2.out).put 0 _).put 1 _).put 2 _).put 3 _).put 4 _).put 5 _)
 have E_K3 : Hid (Blk w6 K3 124 [.int .i64 1, .int .u64 k, .int .u64 0, .string ⟨#[]⟩]) := hid (by rw [hw6]; exact ((((((D_K3.out).far (p := ⟨K2, 0, none⟩) NE_K2_K3.out.symm _).far (p := ⟨K2, 1, none⟩) NE_K2_K3.out.symm _).far (p := ⟨K2, 2, none⟩) NE_K2_K3.out.symm _).far (p := ⟨K2, 3, none⟩) NE_K2_K3.out.symm _).far (p := ⟨K2, 4, none⟩) NE_K2_K3.out.symm _).far (p := ⟨K2, 5, none⟩) NE_K2_K3.out.symm _)
 have E_K4 : Hid (Blk w6 K4 87 [.int .i64 0, .int .i64 0, .int .i64 0, .slice none 0 0, .slice none 0 0, .slice none 0 0, .slice none 0 0, .int .i64 0, .bool false]) := hid (by rw [hw6]; exact ((((((D_K4.out).far (p := ⟨K2, 0, none⟩) NE_K2_K4.out.symm _).far (p := ⟨K2, 1, none⟩) NE_K2_K4.out.symm _).far (p := ⟨K2, 2, none⟩) NE_K2_K4.out.symm _).far (p := ⟨K2, 3, none⟩) NE_K2_K4.out.symm _).far (p := ⟨K2, 4, none⟩) NE_K2_K4.out.symm _).far (p := ⟨K2, 5, none⟩) NE_K2_K4.out.symm _)
 have E_K6 : Hid (Blk w6 K6 85 [.int .i64 3, .int .i64 2, .int .i64 1, .slice A1 2 c1, .slice A2 0 c2, .slice AN 3 cN]) := hid (by rw [hw6]; exact ((((((D_K6.out).far (p := ⟨K2, 0, none⟩) NE_K2_K6.out.symm _).far (p := ⟨K2, 1, none⟩) NE_K2_K6.out.symm _).far (p := ⟨K2, 2, none⟩) NE_K2_K6.out.symm _).far (p := ⟨K2, 3, none⟩) NE_K2_K6.out.symm _).far (p := ⟨K2, 4, none⟩) NE_K2_K6.out.symm _).far (p := ⟨K2, 5, none⟩) NE_K2_K6.out.symm _)
 have EB : Hid (Below w.heap.size w w6) := hid (by rw [hw6]; exact ((((((HB.out).setCell (p := ⟨K2, 0, none⟩) LO_K2.out _).setCell (p := ⟨K2, 1, none⟩) LO_K2.out _).setCell (p := ⟨K2, 2, none⟩) LO_K2.out _).setCell (p := ⟨K2, 3, none⟩) LO_K2.out _).setCell (p := ⟨K2, 4, none⟩) LO_K2.out _).setCell (p := ⟨K2, 5, none⟩) LO_K2.out _)
 have E_SN3 : Hid (Sl w6 w6.heap.size 2 (.slice AN 3 cN) 3 (sls (ss.set j (true, k)))) := hid (by rw [hw6]; exact ((((((SN3.out.off OG.out.1).off OG.out.1).off OG.out.1).off OG.out.1).off OG.out.1).off OG.out.1))
 have HW_w6 := hid hw6
 clear hw6
 go_upto_region 5 with (fail)
 rw [← HW_w6.out]
 clear cK60 cK61 cK62 cK63 cK64 cK65 cK20 cK21 cK22 cK23 cK24 cK25 cK26 cK27 cK28 fK20 fK21 fK22 fK23 fK24 fK25 fK26 fK27 fK28
 clear HB D_K2 D_K3 D_K4 D_K6 SN3
 have D_K2 := E_K2
 have D_K3 := E_K3
 have D_K4 := E_K4
 have D_K6 := E_K6
 have HB := EB
 have SN3 := E_SN3
 clear EB E_K2 E_K3 E_K4 E_K6 E_SN3
 have cK20 := D_K2.out.cell 0
 have cK21 := D_K2.out.cell 1
 have cK22 := D_K2.out.cell 2
 have cK23 := D_K2.out.cell 3
 have cK24 := D_K2.out.cell 4
 have cK25 := D_K2.out.cell 5
 have cK26 := D_K2.out.cell 6
 have cK27 := D_K2.out.cell 7
 have cK28 := D_K2.out.cell 8
 refine wp_region_held_drew (S := fun w' => w'.cell? ⟨K2, 0, none⟩ = some (.int .i64 3) ∧ w'.cell? ⟨K2, 1, none⟩ = some (.int .i64 2) ∧ w'.cell? ⟨K2, 2, none⟩ = some (.int .i64 1) ∧ w'.cell? ⟨K2, 3, none⟩ = some (.slice A1 2 c1) ∧ w'.cell? ⟨K2, 4, none⟩ = some (.slice A2 0 c2) ∧ w'.cell? ⟨K2, 5, none⟩ = some (.slice AN 3 cN) ∧ w'.cell? ⟨K2, 6, none⟩ = some (.slice Aw 4 cw) ∧ w'.cell? ⟨K2, 7, none⟩ = some (.int .i64 4) ∧ w'.cell? ⟨K2, 8, none⟩ = some (.bool true)) (by kernel_rfl) ⟨D_K2.out.cell 0, D_K2.out.cell 1, D_K2.out.cell 2, D_K2.out.cell 3, D_K2.out.cell 4, D_K2.out.cell 5, D_K2.out.cell 6, D_K2.out.cell 7, D_K2.out.cell 8⟩ (fun hHeld => ?_)
 clear cK20 cK21 cK22 cK23 cK24 cK25 cK26 cK27 cK28
 refine wpAnyH_take (i := 0) (oi := _) (v := ?_) rfl (by kernel_rfl) (by kernel_rfl) (by kernel_rfl) (fun _ _ _ h => h) (.inl ⟨by rfl, ?_⟩) (by assumption) ?_
 rotate_left
 · intro w hSw; obtain ⟨y0, y1, y2, y3, y4, y5, y6, y7, y8⟩ := hSw; go_simp; try (with_reducible rfl)
 (try simp only [Act.put, putL])
 refine wpAnyH_take (i := 1) (oi := _) (v := ?_) rfl (by kernel_rfl) (by kernel_rfl) (by kernel_rfl) (fun _ _ _ h => h) (.inl ⟨by rfl, ?_⟩) (by assumption) ?_
 rotate_left
 · intro w hSw; obtain ⟨y0, y1, y2, y3, y4, y5, y6, y7, y8⟩ := hSw; go_simp; try (with_reducible rfl)
 (try simp only [Act.put, putL])
 refine wpAnyH_ready (rs := [2]) (by kernel_rfl) (by simp) ?_
 refine AllReadyH.cons (o := _) rfl (fun K hK => ?_) ?_
 ·
  go_simp
  go_at_call 37
  replace HBk := hid HB.out.size
  refine (tellb_ok _).mono ?_; rintro e w7 ⟨rfl, b0_⟩
  have b_ : Below w6.heap.size w6 w7 := Bl.call (Bl.qt (Below.refl _ _) (qt_drew _)) b0_
  replace D_K2 := hid (D_K2.out.on b_)
  replace D_K3 := hid (D_K3.out.on b_)
  replace D_K4 := hid (D_K4.out.on b_)
  replace D_K6 := hid (D_K6.out.on b_)
  replace SN3 := hid (SN3.out.call b_)
  replace HB := hid (Bl.call HB.out b_)
  clear b_ b0_
  refine hK.out _ _ ?_ (fun hHeld => ?_)
  · exact ⟨D_K2.out.cell 0, D_K2.out.cell 1, D_K2.out.cell 2, D_K2.out.cell 3, D_K2.out.cell 4, D_K2.out.cell 5, D_K2.out.cell 6, D_K2.out.cell 7, D_K2.out.cell 8⟩
  clear hK K
  (try simp only [Act.put, putL])
  have cK40 := D_K4.out.cell 0
  have cK41 := D_K4.out.cell 1
  have cK42 := D_K4.out.cell 2
  have cK43 := D_K4.out.cell 3
  have cK44 := D_K4.out.cell 4
  have cK45 := D_K4.out.cell 5
  have cK46 := D_K4.out.cell 6
  have cK47 := D_K4.out.cell 7
  have cK48 := D_K4.out.cell 8
  have fK40 := D_K4.out.frozen 0
  have fK41 := D_K4.out.frozen 1
  have fK42 := D_K4.out.frozen 2
  have fK43 := D_K4.out.frozen 3
  have fK44 := D_K4.out.frozen 4
  have fK45 := D_K4.out.frozen 5
  have fK46 := D_K4.out.frozen 6
  have fK47 := D_K4.out.frozen 7
  have fK48 := D_K4.out.frozen 8
  obtain ⟨w8, hw8⟩ : ∃ W, W = (((((((((w7.setCell ⟨K4, 0, none⟩ (.int .i64 3)).setCell ⟨K4, 1, none⟩ (.int .i64 2)).setCell ⟨K4, 2, none⟩ (.int .i64 1)).setCell ⟨K4, 3, none⟩ (.slice A1 2 c1)).setCell ⟨K4, 4, none⟩ (.slice A2 0 c2)).setCell ⟨K4, 5, none⟩ (.slice AN 3 cN)).setCell ⟨K4, 6, none⟩ (.slice Aw 4 cw)).setCell ⟨K4, 7, none⟩ (.int .i64 4)).setCell ⟨K4, 8, none⟩ (.bool true)) := ⟨_, rfl⟩
  have E_K2 : Hid (Blk w8 K2 87 [.int .i64 3, .int .i64 2, .int .i64 1, .slice A1 2 c1, .slice A2 0 c2, .slice AN 3 cN, .slice Aw 4 cw, .int .i64 4, .bool true]) := hid (by rw [hw8]; exact (((((((((D_K2.out).far (p := ⟨K4, 0, none⟩) NE_K2_K4.out _).far (p := ⟨K4, 1, none⟩) NE_K2_K4.out _).far (p := ⟨K4, 2, none⟩) NE_K2_K4.out _).far (p := ⟨K4, 3, none⟩) NE_K2_K4.out _).far (p := ⟨K4, 4, none⟩) NE_K2_K4.out _).far (p := ⟨K4, 5, none⟩) NE_K2_K4.out _).far (p := ⟨K4, 6, none⟩) NE_K2_K4.out _).far (p := ⟨K4, 7, none⟩) NE_K2_K4.out _).far (p := ⟨K4, 8, none⟩) NE_K2_K4.out _)
  have E_K3 : Hid (Blk w8 K3 124 [.int .i64 1, .int .u64 k, .int .u64 0, .string ⟨#[]⟩]) := hid (by rw [hw8]; exact (((((((((D_K3.out).far (p := ⟨K4, 0, none⟩) NE_K3_K4.out _).far (p := ⟨K4, 1, none⟩) NE_K3_K4.out _).far (p := ⟨K4, 2, none⟩) NE_K3_K4.out _).far (p := ⟨K4, 3, none⟩) NE_K3_K4.out _).far (p := ⟨K4, 4, none⟩) NE_K3_K4.out _).far (p := ⟨K4, 5, none⟩) NE_K3_K4.out _).far (p := ⟨K4, 6, none⟩) NE_K3_K4.out _).far (p := ⟨K4, 7, none⟩) NE_K3_K4.out _).far (p := ⟨K4, 8, none⟩) NE_K3_K4.out _)
  have E_K4 : Hid (Blk w8 K4 87 [.int .i64 3, .int .i64 2, .int .i64 1, .slice A1 2 c1, .slice A2 0 c2, .slice AN 3 cN, .slice Aw 4 cw, .int .i64 4, .bool true]) := hid (by rw [hw8]; exact (((((((((D_K4.out).put 0 _).put 1 _).put 2 _).put 3 _).put 4 _).put 5 _).put 6 _).put 7 _).put 8 _)
  have E_K6 : Hid (Blk w8 K6 85 [.int .i64 3, .int .i64 2, .int .i64 1, .slice A1 2 c1, .slice A2 0 c2, .slice AN 3 cN]) := hid (by rw [hw8]; exact (((((((((D_K6.out).far (p := ⟨K4, 0, none⟩) NE_K4_K6.out.symm _).far (p := ⟨K4, 1, none⟩) NE_K4_K6.out.symm _).far (p := ⟨K4, 2, none⟩) NE_K4_K6.out.symm _).far (p := ⟨K4, 3, none⟩) NE_K4_K6.out.symm _).far (p := ⟨K4, 4, none⟩) NE_K4_K6.out.symm _).far (p := ⟨K4, 5, none⟩) NE_K4_K6.out.symm _).far (p := ⟨K4, 6, none⟩) NE_K4_K6.out.symm _).far (p := ⟨K4, 7, none⟩) NE_K4_K6.out.symm _).far (p := ⟨K4, 8, none⟩) NE_K4_K6.out.symm _)
  have EB : Hid (Below w.heap.size w w8) := hid (by rw [hw8]; exact (((((((((HB.out).setCell (p := ⟨K4, 0, none⟩) LO_K4.out _).setCell (p := ⟨K4, 1, none⟩) LO_K4.out _).setCell (p := ⟨K4, 2, none⟩) LO_K4.out _).setCell (p := ⟨K4, 3, none⟩) LO_K4.out _).setCell (p := ⟨K4, 4, none⟩) LO_K4.out _).setCell (p := ⟨K4, 5, none⟩) LO_K4.out _).setCell (p := ⟨K4, 6, none⟩) LO_K4.out _).setCell (p := ⟨K4, 7, none⟩) LO_K4.out _).setCell (p := ⟨K4, 8, none⟩) LO_K4.out _)
  have E_SN3 : Hid (Sl w8 w8.heap.size 2 (.slice AN 3 cN) 3 (sls (ss.set j (true, k)))) := hid (by rw [hw8]; exact (((((((((SN3.out.off OG.out.2).off OG.out.2).off OG.out.2).off OG.out.2).off OG.out.2).off OG.out.2).off OG.out.2).off OG.out.2).off OG.out.2))
  have HW_w8 := hid hw8
  clear hw8
  refine wpAnyH_ready (rs := [3]) (by kernel_rfl) (by simp) ?_
  refine AllReadyH.cons (o := _) rfl (fun K hK => ?_) ?_
  ·
   go_simp
   rw [← HW_w8.out]
   refine hK.out _ _ ?_ (fun hHeld => ?_)
   · exact ⟨E_K2.out.cell 0, E_K2.out.cell 1, E_K2.out.cell 2, E_K2.out.cell 3, E_K2.out.cell 4, E_K2.out.cell 5, E_K2.out.cell 6, E_K2.out.cell 7, E_K2.out.cell 8⟩
   clear hK K
   (try simp only [Act.put, putL])
   clear cK40 cK41 cK42 cK43 cK44 cK45 cK46 cK47 cK48 fK40 fK41 fK42 fK43 fK44 fK45 fK46 fK47 fK48
   clear HB D_K2 D_K3 D_K4 D_K6 SN3
   have D_K2 := E_K2
   have D_K3 := E_K3
   have D_K4 := E_K4
   have D_K6 := E_K6
   have HB := EB
   have SN3 := E_SN3
   clear EB E_K2 E_K3 E_K4 E_K6 E_SN3
   refine wpAnyH_take (i := 4) (oi := _) (v := ?_) rfl (by kernel_rfl) (by kernel_rfl) (by kernel_rfl) (fun _ _ _ h => h) (.inl ⟨by rfl, ?_⟩) (by assumption) ?_
   rotate_left
   · intro w hSw; obtain ⟨y0, y1, y2, y3, y4, y5, y6, y7, y8⟩ := hSw; go_simp; try (with_reducible rfl)
   (try simp only [Act.put, putL])
   refine wpAnyH_done (by kernel_rfl) ?_ _
   have cK40 := D_K4.out.cell 0
   have cK41 := D_K4.out.cell 1
   have cK42 := D_K4.out.cell 2
   have cK43 := D_K4.out.cell 3
   have cK44 := D_K4.out.cell 4
   have cK45 := D_K4.out.cell 5
   have cK46 := D_K4.out.cell 6
   have cK47 := D_K4.out.cell 7
   have cK48 := D_K4.out.cell 8
   go_wp2
   exact bodyPost_ret (v := .tuple #[.agg #[.int .i64 3, .int .i64 2, .int .i64 1, .slice A1 2 c1, .slice A2 0 c2, .slice AN 3 cN, .slice Aw 4 cw, .int .i64 4, .bool true], .string ⟨#[111, 107]⟩]) (by simp [results, Tryz.results65, go_sem, cK40, cK41, cK42, cK43, cK44, cK45, cK46, cK47, cK48]) rfl ⟨_, _, rfl, ⟨HM.out.sh.call HB.out, HM.out.se.call HB.out, SN3.out⟩, OFN.out, HB.out⟩
  exact AllReadyH.nil
 exact AllReadyH.nil
set_option maxHeartbeats 16000000 in
set_option maxRecDepth 100000 in
theorem done_ins (hm : SM w (.slice A1 2 c1) (.slice A2 0 c2) (.slice A3 3 c3) [] sA3) : Calls Tryz.prog 65 #[seN A1 c1 A2 0 c2 A3 c3 Aw cw, .agg #[.int .i64 3, .int .u64 6, .int .u64 4, .string ⟨#[]⟩]] w (LnIns A1 A3 Aw c1 c3 cw w) := by
 unfold seN
 have HM := hid hm
 have SM_ := hid hm
 clear hm
 obtain ⟨w1, hw1⟩ : ∃ W, W = w.alloc (.cells #[.int .i64 3, .int .i64 2, .int .i64 1, .slice A1 2 c1, .slice A2 0 c2, .slice A3 3 c3, .slice Aw 4 cw, .int .i64 4, .bool true] 87) := ⟨_, rfl⟩
 obtain ⟨K2, hK2⟩ : ∃ K, K = w.heap.size := ⟨_, rfl⟩
 obtain ⟨w2, hw2⟩ : ∃ W, W = w1.alloc (.cells #[.int .i64 3, .int .u64 6, .int .u64 4, .string ⟨#[]⟩] 124) := ⟨_, rfl⟩
 obtain ⟨K3, hK3⟩ : ∃ K, K = K2 + 1 := ⟨_, rfl⟩
 obtain ⟨w3, hw3⟩ : ∃ W, W = w2.alloc (.cells #[.int .i64 0, .int .i64 0, .int .i64 0, .slice none 0 0, .slice none 0 0, .slice none 0 0, .slice none 0 0, .int .i64 0, .bool false] 87) := ⟨_, rfl⟩
 obtain ⟨K4, hK4⟩ : ∃ K, K = K3 + 1 := ⟨_, rfl⟩
 have zw1 : w1.heap.size = K2 + 1 := by rw [hw1, hK2]; simp
 have zw2 : w2.heap.size = K2 + 2 := by rw [hw2]; simp; exact zw1
 have zw3 : w3.heap.size = K2 + 3 := by rw [hw3]; simp; exact zw2
 have D_K2 : Hid (Blk w3 K2 87 [.int .i64 3, .int .i64 2, .int .i64 1, .slice A1 2 c1, .slice A2 0 c2, .slice A3 3 c3, .slice Aw 4 cw, .int .i64 4, .bool true]) := hid (by rw [hK2]; rw [hw3, hw2, hw1]; exact ((Blk.new _ _ _).alloc _).alloc _)
 have LO_K2 : Hid (w.heap.size ≤ K2) := hid (by omega)
 have D_K3 : Hid (Blk w3 K3 124 [.int .i64 3, .int .u64 6, .int .u64 4, .string ⟨#[]⟩]) := hid (by rw [show K3 = w1.heap.size by omega]; rw [hw3, hw2]; exact (Blk.new _ _ _).alloc _)
 have LO_K3 : Hid (w.heap.size ≤ K3) := hid (by omega)
 have D_K4 : Hid (Blk w3 K4 87 [.int .i64 0, .int .i64 0, .int .i64 0, .slice none 0 0, .slice none 0 0, .slice none 0 0, .slice none 0 0, .int .i64 0, .bool false]) := hid (by rw [show K4 = w2.heap.size by omega]; rw [hw3]; exact Blk.new _ _ _)
 have LO_K4 : Hid (w.heap.size ≤ K4) := hid (by omega)
 have NE_K2_K3 : Hid (K2 ≠ K3) := hid (by omega)
 have NE_K2_K4 : Hid (K2 ≠ K4) := hid (by omega)
 have NE_K3_K4 : Hid (K3 ≠ K4) := hid (by omega)
 have HB : Hid (Below w.heap.size w w3) := hid (by rw [hw3, hw2, hw1]; exact Bl.new (Bl.new (bel_new _ _) _) _)
 replace SM_ := hid (SM_.out.call HB.out)
 have HW_w1 := hid hw1
 have HK_K2 := hid hK2
 have HW_w2 := hid hw2
 have HK_K3 := hid hK3
 have HW_w3 := hid hw3
 have HK_K4 := hid hK4
 clear hw1 hw2 hw3 hK2 hK3 hK4 zw1 zw2 zw3
 go_enter Tryz.func65, Tryz.ntmps65
 go_upto_region 1 with (fail)
 rw [← HW_w1.out, ← HK_K2.out, ← HK_K3.out, ← HW_w2.out, ← HK_K4.out, ← HW_w3.out]
 have cK20 := D_K2.out.cell 0
 have cK21 := D_K2.out.cell 1
 have cK22 := D_K2.out.cell 2
 have cK23 := D_K2.out.cell 3
 have cK24 := D_K2.out.cell 4
 have cK25 := D_K2.out.cell 5
 have cK26 := D_K2.out.cell 6
 have cK27 := D_K2.out.cell 7
 have cK28 := D_K2.out.cell 8
 have cK30 := D_K3.out.cell 0
 have cK31 := D_K3.out.cell 1
 have cK32 := D_K3.out.cell 2
 have cK33 := D_K3.out.cell 3
 have L4 : Hid (K2 < w3.heap.size ∧ K4 < w3.heap.size) := hid ⟨D_K2.out.lt, D_K4.out.lt⟩
 go_wp2_with fail
 have HBk := hid HB.out.size
 refine (do_ins SM_.out).mono ?_; rintro e w4 ⟨AN, cN, rfl, SN_, oN, b_⟩
 clear cK20 cK21 cK22 cK23 cK24 cK25 cK26 cK27 cK28 cK30 cK31 cK32 cK33
 replace D_K2 := hid (D_K2.out.on b_)
 replace D_K3 := hid (D_K3.out.on b_)
 replace D_K4 := hid (D_K4.out.on b_)
 replace SM_ := hid (SM_.out.call b_)
 replace HB := hid (Bl.call HB.out b_)
 have SN := hid SN_
 clear SN_
 clear b_
 have OFN : Hid (∀ K, K < w.heap.size → Off K (.slice AN 1 cN)) := hid (fun K hK => oN K (by have := HBk.out; omega))
 have OG : Hid (Off K2 (.slice AN 1 cN) ∧ Off K4 (.slice AN 1 cN)) := hid ⟨oN K2 L4.out.1, oN K4 L4.out.2⟩
 clear oN L4
 go_upto_region 4 with (fail)
 obtain ⟨w5, hw5⟩ : ∃ W, W = w4.alloc (.cells #[.int .i64 3, .int .i64 2, .int .i64 1, .slice A1 2 c1, .slice AN 1 cN, .slice A3 3 c3] 85) := ⟨_, rfl⟩
 obtain ⟨K6, hK6⟩ : ∃ K, K = w4.heap.size := ⟨_, rfl⟩
 have b_ := bel_new w4 (.cells #[.int .i64 3, .int .i64 2, .int .i64 1, .slice A1 2 c1, .slice AN 1 cN, .slice A3 3 c3] 85)
 rw [← hw5] at b_
 have D_K6 : Hid (Blk w5 K6 85 [.int .i64 3, .int .i64 2, .int .i64 1, .slice A1 2 c1, .slice AN 1 cN, .slice A3 3 c3]) := hid (by rw [hw5, hK6]; exact Blk.new _ _ _)
 have LO_K6 : Hid (w.heap.size ≤ K6) := hid (by rw [hK6]; exact HB.out.size)
 have NE_K2_K6 : Hid (K2 ≠ K6) := hid (by have := D_K2.out.lt; rw [hK6]; omega)
 have NE_K3_K6 : Hid (K3 ≠ K6) := hid (by have := D_K3.out.lt; rw [hK6]; omega)
 have NE_K4_K6 : Hid (K4 ≠ K6) := hid (by have := D_K4.out.lt; rw [hK6]; omega)
 replace D_K2 := hid (D_K2.out.on b_)
 replace D_K3 := hid (D_K3.out.on b_)
 replace D_K4 := hid (D_K4.out.on b_)
 replace SM_ := hid (SM_.out.call b_)
 replace SN := hid (SN.out.call b_)
 replace HB := hid (Bl.call HB.out b_)
 rw [← hw5, ← hK6]
 have HW_w5 := hid hw5
 have HK_K6 := hid hK6
 clear b_ hw5 hK6
 have SN3 := hid SN.out.se
 clear SN SM_
 have cK60 := D_K6.out.cell 0
 have cK61 := D_K6.out.cell 1
 have cK62 := D_K6.out.cell 2
 have cK63 := D_K6.out.cell 3
 have cK64 := D_K6.out.cell 4
 have cK65 := D_K6.out.cell 5
 have cK20 := D_K2.out.cell 0
 have cK21 := D_K2.out.cell 1
 have cK22 := D_K2.out.cell 2
 have cK23 := D_K2.out.cell 3
 have cK24 := D_K2.out.cell 4
 have cK25 := D_K2.out.cell 5
 have cK26 := D_K2.out.cell 6
 have cK27 := D_K2.out.cell 7
 have cK28 := D_K2.out.cell 8
 have fK20 := D_K2.out.frozen 0
 have fK21 := D_K2.out.frozen 1
 have fK22 := D_K2.out.frozen 2
 have fK23 := D_K2.out.frozen 3
 have fK24 := D_K2.out.frozen 4
 have fK25 := D_K2.out.frozen 5
 have fK26 := D_K2.out.frozen 6
 have fK27 := D_K2.out.frozen 7
 have fK28 := D_K2.out.frozen 8
 obtain ⟨w6, hw6⟩ : ∃ W, W = ((((((w5.setCell ⟨K2, 0, none⟩ (.int .i64 3)).setCell ⟨K2, 1, none⟩ (.int .i64 2)).setCell ⟨K2, 2, none⟩ (.int .i64 1)).setCell ⟨K2, 3, none⟩ (.slice A1 2 c1)).setCell ⟨K2, 4, none⟩ (.slice AN 1 cN)).setCell ⟨K2, 5, none⟩ (.slice A3 3 c3)) := ⟨_, rfl⟩
 have E_K2 : Hid (Blk w6 K2 87 [.int .i64 3, .int .i64 2, .int .i64 1, .slice A1 2 c1, .slice AN 1 cN, .slice A3 3 c3, .slice Aw 4 cw, .int .i64 4, .bool true]) := hid (by rw [hw6]; exact ((((((D_K2.out).put 0 _).put 1 _).put 2 _).put 3 _).put 4 _).put 5 _)
 have E_K3 : Hid (Blk w6 K3 124 [.int .i64 3, .int .u64 6, .int .u64 4, .string ⟨#[]⟩]) := hid (by rw [hw6]; exact ((((((D_K3.out).far (p := ⟨K2, 0, none⟩) NE_K2_K3.out.symm _).far (p := ⟨K2, 1, none⟩) NE_K2_K3.out.symm _).far (p := ⟨K2, 2, none⟩) NE_K2_K3.out.symm _).far (p := ⟨K2, 3, none⟩) NE_K2_K3.out.symm _).far (p := ⟨K2, 4, none⟩) NE_K2_K3.out.symm _).far (p := ⟨K2, 5, none⟩) NE_K2_K3.out.symm _)
 have E_K4 : Hid (Blk w6 K4 87 [.int .i64 0, .int .i64 0, .int .i64 0, .slice none 0 0, .slice none 0 0, .slice none 0 0, .slice none 0 0, .int .i64 0, .bool false]) := hid (by rw [hw6]; exact ((((((D_K4.out).far (p := ⟨K2, 0, none⟩) NE_K2_K4.out.symm _).far (p := ⟨K2, 1, none⟩) NE_K2_K4.out.symm _).far (p := ⟨K2, 2, none⟩) NE_K2_K4.out.symm _).far (p := ⟨K2, 3, none⟩) NE_K2_K4.out.symm _).far (p := ⟨K2, 4, none⟩) NE_K2_K4.out.symm _).far (p := ⟨K2, 5, none⟩) NE_K2_K4.out.symm _)
 have E_K6 : Hid (Blk w6 K6 85 [.int .i64 3, .int .i64 2, .int .i64 1, .slice A1 2 c1, .slice AN 1 cN, .slice A3 3 c3]) := hid (by rw [hw6]; exact ((((((D_K6.out).far (p := ⟨K2, 0, none⟩) NE_K2_K6.out.symm _).far (p := ⟨K2, 1, none⟩) NE_K2_K6.out.symm _).far (p := ⟨K2, 2, none⟩) NE_K2_K6.out.symm _).far (p := ⟨K2, 3, none⟩) NE_K2_K6.out.symm _).far (p := ⟨K2, 4, none⟩) NE_K2_K6.out.symm _).far (p := ⟨K2, 5, none⟩) NE_K2_K6.out.symm _)
 have EB : Hid (Below w.heap.size w w6) := hid (by rw [hw6]; exact ((((((HB.out).setCell (p := ⟨K2, 0, none⟩) LO_K2.out _).setCell (p := ⟨K2, 1, none⟩) LO_K2.out _).setCell (p := ⟨K2, 2, none⟩) LO_K2.out _).setCell (p := ⟨K2, 3, none⟩) LO_K2.out _).setCell (p := ⟨K2, 4, none⟩) LO_K2.out _).setCell (p := ⟨K2, 5, none⟩) LO_K2.out _)
 have E_SN3 : Hid (Sl w6 w6.heap.size 3 (.slice AN 1 cN) 1 (eds eA)) := hid (by rw [hw6]; exact ((((((SN3.out.off OG.out.1).off OG.out.1).off OG.out.1).off OG.out.1).off OG.out.1).off OG.out.1))
 have HW_w6 := hid hw6
 clear hw6
 go_upto_region 5 with (fail)
 rw [← HW_w6.out]
 clear cK60 cK61 cK62 cK63 cK64 cK65 cK20 cK21 cK22 cK23 cK24 cK25 cK26 cK27 cK28 fK20 fK21 fK22 fK23 fK24 fK25 fK26 fK27 fK28
 clear HB D_K2 D_K3 D_K4 D_K6 SN3
 have D_K2 := E_K2
 have D_K3 := E_K3
 have D_K4 := E_K4
 have D_K6 := E_K6
 have HB := EB
 have SN3 := E_SN3
 clear EB E_K2 E_K3 E_K4 E_K6 E_SN3
 have cK20 := D_K2.out.cell 0
 have cK21 := D_K2.out.cell 1
 have cK22 := D_K2.out.cell 2
 have cK23 := D_K2.out.cell 3
 have cK24 := D_K2.out.cell 4
 have cK25 := D_K2.out.cell 5
 have cK26 := D_K2.out.cell 6
 have cK27 := D_K2.out.cell 7
 have cK28 := D_K2.out.cell 8
 refine wp_region_held_drew (S := fun w' => w'.cell? ⟨K2, 0, none⟩ = some (.int .i64 3) ∧ w'.cell? ⟨K2, 1, none⟩ = some (.int .i64 2) ∧ w'.cell? ⟨K2, 2, none⟩ = some (.int .i64 1) ∧ w'.cell? ⟨K2, 3, none⟩ = some (.slice A1 2 c1) ∧ w'.cell? ⟨K2, 4, none⟩ = some (.slice AN 1 cN) ∧ w'.cell? ⟨K2, 5, none⟩ = some (.slice A3 3 c3) ∧ w'.cell? ⟨K2, 6, none⟩ = some (.slice Aw 4 cw) ∧ w'.cell? ⟨K2, 7, none⟩ = some (.int .i64 4) ∧ w'.cell? ⟨K2, 8, none⟩ = some (.bool true)) (by kernel_rfl) ⟨D_K2.out.cell 0, D_K2.out.cell 1, D_K2.out.cell 2, D_K2.out.cell 3, D_K2.out.cell 4, D_K2.out.cell 5, D_K2.out.cell 6, D_K2.out.cell 7, D_K2.out.cell 8⟩ (fun hHeld => ?_)
 clear cK20 cK21 cK22 cK23 cK24 cK25 cK26 cK27 cK28
 refine wpAnyH_take (i := 0) (oi := _) (v := ?_) rfl (by kernel_rfl) (by kernel_rfl) (by kernel_rfl) (fun _ _ _ h => h) (.inl ⟨by rfl, ?_⟩) (by assumption) ?_
 rotate_left
 · intro w hSw; obtain ⟨y0, y1, y2, y3, y4, y5, y6, y7, y8⟩ := hSw; go_simp; try (with_reducible rfl)
 (try simp only [Act.put, putL])
 refine wpAnyH_take (i := 1) (oi := _) (v := ?_) rfl (by kernel_rfl) (by kernel_rfl) (by kernel_rfl) (fun _ _ _ h => h) (.inl ⟨by rfl, ?_⟩) (by assumption) ?_
 rotate_left
 · intro w hSw; obtain ⟨y0, y1, y2, y3, y4, y5, y6, y7, y8⟩ := hSw; go_simp; try (with_reducible rfl)
 (try simp only [Act.put, putL])
 refine wpAnyH_ready (rs := [2]) (by kernel_rfl) (by simp) ?_
 refine AllReadyH.cons (o := _) rfl (fun K hK => ?_) ?_
 ·
  go_simp
  go_at_call 37
  replace HBk := hid HB.out.size
  refine (tellb_ok _).mono ?_; rintro e w7 ⟨rfl, b0_⟩
  have b_ : Below w6.heap.size w6 w7 := Bl.call (Bl.qt (Below.refl _ _) (qt_drew _)) b0_
  replace D_K2 := hid (D_K2.out.on b_)
  replace D_K3 := hid (D_K3.out.on b_)
  replace D_K4 := hid (D_K4.out.on b_)
  replace D_K6 := hid (D_K6.out.on b_)
  replace SN3 := hid (SN3.out.call b_)
  replace HB := hid (Bl.call HB.out b_)
  clear b_ b0_
  refine hK.out _ _ ?_ (fun hHeld => ?_)
  · exact ⟨D_K2.out.cell 0, D_K2.out.cell 1, D_K2.out.cell 2, D_K2.out.cell 3, D_K2.out.cell 4, D_K2.out.cell 5, D_K2.out.cell 6, D_K2.out.cell 7, D_K2.out.cell 8⟩
  clear hK K
  (try simp only [Act.put, putL])
  have cK40 := D_K4.out.cell 0
  have cK41 := D_K4.out.cell 1
  have cK42 := D_K4.out.cell 2
  have cK43 := D_K4.out.cell 3
  have cK44 := D_K4.out.cell 4
  have cK45 := D_K4.out.cell 5
  have cK46 := D_K4.out.cell 6
  have cK47 := D_K4.out.cell 7
  have cK48 := D_K4.out.cell 8
  have fK40 := D_K4.out.frozen 0
  have fK41 := D_K4.out.frozen 1
  have fK42 := D_K4.out.frozen 2
  have fK43 := D_K4.out.frozen 3
  have fK44 := D_K4.out.frozen 4
  have fK45 := D_K4.out.frozen 5
  have fK46 := D_K4.out.frozen 6
  have fK47 := D_K4.out.frozen 7
  have fK48 := D_K4.out.frozen 8
  obtain ⟨w8, hw8⟩ : ∃ W, W = (((((((((w7.setCell ⟨K4, 0, none⟩ (.int .i64 3)).setCell ⟨K4, 1, none⟩ (.int .i64 2)).setCell ⟨K4, 2, none⟩ (.int .i64 1)).setCell ⟨K4, 3, none⟩ (.slice A1 2 c1)).setCell ⟨K4, 4, none⟩ (.slice AN 1 cN)).setCell ⟨K4, 5, none⟩ (.slice A3 3 c3)).setCell ⟨K4, 6, none⟩ (.slice Aw 4 cw)).setCell ⟨K4, 7, none⟩ (.int .i64 4)).setCell ⟨K4, 8, none⟩ (.bool true)) := ⟨_, rfl⟩
  have E_K2 : Hid (Blk w8 K2 87 [.int .i64 3, .int .i64 2, .int .i64 1, .slice A1 2 c1, .slice AN 1 cN, .slice A3 3 c3, .slice Aw 4 cw, .int .i64 4, .bool true]) := hid (by rw [hw8]; exact (((((((((D_K2.out).far (p := ⟨K4, 0, none⟩) NE_K2_K4.out _).far (p := ⟨K4, 1, none⟩) NE_K2_K4.out _).far (p := ⟨K4, 2, none⟩) NE_K2_K4.out _).far (p := ⟨K4, 3, none⟩) NE_K2_K4.out _).far (p := ⟨K4, 4, none⟩) NE_K2_K4.out _).far (p := ⟨K4, 5, none⟩) NE_K2_K4.out _).far (p := ⟨K4, 6, none⟩) NE_K2_K4.out _).far (p := ⟨K4, 7, none⟩) NE_K2_K4.out _).far (p := ⟨K4, 8, none⟩) NE_K2_K4.out _)
  have E_K3 : Hid (Blk w8 K3 124 [.int .i64 3, .int .u64 6, .int .u64 4, .string ⟨#[]⟩]) := hid (by rw [hw8]; exact (((((((((D_K3.out).far (p := ⟨K4, 0, none⟩) NE_K3_K4.out _).far (p := ⟨K4, 1, none⟩) NE_K3_K4.out _).far (p := ⟨K4, 2, none⟩) NE_K3_K4.out _).far (p := ⟨K4, 3, none⟩) NE_K3_K4.out _).far (p := ⟨K4, 4, none⟩) NE_K3_K4.out _).far (p := ⟨K4, 5, none⟩) NE_K3_K4.out _).far (p := ⟨K4, 6, none⟩) NE_K3_K4.out _).far (p := ⟨K4, 7, none⟩) NE_K3_K4.out _).far (p := ⟨K4, 8, none⟩) NE_K3_K4.out _)
  have E_K4 : Hid (Blk w8 K4 87 [.int .i64 3, .int .i64 2, .int .i64 1, .slice A1 2 c1, .slice AN 1 cN, .slice A3 3 c3, .slice Aw 4 cw, .int .i64 4, .bool true]) := hid (by rw [hw8]; exact (((((((((D_K4.out).put 0 _).put 1 _).put 2 _).put 3 _).put 4 _).put 5 _).put 6 _).put 7 _).put 8 _)
  have E_K6 : Hid (Blk w8 K6 85 [.int .i64 3, .int .i64 2, .int .i64 1, .slice A1 2 c1, .slice AN 1 cN, .slice A3 3 c3]) := hid (by rw [hw8]; exact (((((((((D_K6.out).far (p := ⟨K4, 0, none⟩) NE_K4_K6.out.symm _).far (p := ⟨K4, 1, none⟩) NE_K4_K6.out.symm _).far (p := ⟨K4, 2, none⟩) NE_K4_K6.out.symm _).far (p := ⟨K4, 3, none⟩) NE_K4_K6.out.symm _).far (p := ⟨K4, 4, none⟩) NE_K4_K6.out.symm _).far (p := ⟨K4, 5, none⟩) NE_K4_K6.out.symm _).far (p := ⟨K4, 6, none⟩) NE_K4_K6.out.symm _).far (p := ⟨K4, 7, none⟩) NE_K4_K6.out.symm _).far (p := ⟨K4, 8, none⟩) NE_K4_K6.out.symm _)
  have EB : Hid (Below w.heap.size w w8) := hid (by rw [hw8]; exact (((((((((HB.out).setCell (p := ⟨K4, 0, none⟩) LO_K4.out _).setCell (p := ⟨K4, 1, none⟩) LO_K4.out _).setCell (p := ⟨K4, 2, none⟩) LO_K4.out _).setCell (p := ⟨K4, 3, none⟩) LO_K4.out _).setCell (p := ⟨K4, 4, none⟩) LO_K4.out _).setCell (p := ⟨K4, 5, none⟩) LO_K4.out _).setCell (p := ⟨K4, 6, none⟩) LO_K4.out _).setCell (p := ⟨K4, 7, none⟩) LO_K4.out _).setCell (p := ⟨K4, 8, none⟩) LO_K4.out _)
  have E_SN3 : Hid (Sl w8 w8.heap.size 3 (.slice AN 1 cN) 1 (eds eA)) := hid (by rw [hw8]; exact (((((((((SN3.out.off OG.out.2).off OG.out.2).off OG.out.2).off OG.out.2).off OG.out.2).off OG.out.2).off OG.out.2).off OG.out.2).off OG.out.2))
  have HW_w8 := hid hw8
  clear hw8
  refine wpAnyH_ready (rs := [3]) (by kernel_rfl) (by simp) ?_
  refine AllReadyH.cons (o := _) rfl (fun K hK => ?_) ?_
  ·
   go_simp
   rw [← HW_w8.out]
   refine hK.out _ _ ?_ (fun hHeld => ?_)
   · exact ⟨E_K2.out.cell 0, E_K2.out.cell 1, E_K2.out.cell 2, E_K2.out.cell 3, E_K2.out.cell 4, E_K2.out.cell 5, E_K2.out.cell 6, E_K2.out.cell 7, E_K2.out.cell 8⟩
   clear hK K
   (try simp only [Act.put, putL])
   clear cK40 cK41 cK42 cK43 cK44 cK45 cK46 cK47 cK48 fK40 fK41 fK42 fK43 fK44 fK45 fK46 fK47 fK48
   clear HB D_K2 D_K3 D_K4 D_K6 SN3
   have D_K2 := E_K2
   have D_K3 := E_K3
   have D_K4 := E_K4
   have D_K6 := E_K6
   have HB := EB
   have SN3 := E_SN3
   clear EB E_K2 E_K3 E_K4 E_K6 E_SN3
   refine wpAnyH_take (i := 4) (oi := _) (v := ?_) rfl (by kernel_rfl) (by kernel_rfl) (by kernel_rfl) (fun _ _ _ h => h) (.inl ⟨by rfl, ?_⟩) (by assumption) ?_
   rotate_left
   · intro w hSw; obtain ⟨y0, y1, y2, y3, y4, y5, y6, y7, y8⟩ := hSw; go_simp; try (with_reducible rfl)
   (try simp only [Act.put, putL])
   refine wpAnyH_done (by kernel_rfl) ?_ _
   have cK40 := D_K4.out.cell 0
   have cK41 := D_K4.out.cell 1
   have cK42 := D_K4.out.cell 2
   have cK43 := D_K4.out.cell 3
   have cK44 := D_K4.out.cell 4
   have cK45 := D_K4.out.cell 5
   have cK46 := D_K4.out.cell 6
   have cK47 := D_K4.out.cell 7
   have cK48 := D_K4.out.cell 8
   go_wp2
   exact bodyPost_ret (v := .tuple #[.agg #[.int .i64 3, .int .i64 2, .int .i64 1, .slice A1 2 c1, .slice AN 1 cN, .slice A3 3 c3, .slice Aw 4 cw, .int .i64 4, .bool true], .string ⟨#[111, 107]⟩]) (by simp [results, Tryz.results65, go_sem, cK40, cK41, cK42, cK43, cK44, cK45, cK46, cK47, cK48]) rfl ⟨_, _, rfl, ⟨HM.out.sh.call HB.out, SN3.out, HM.out.ss.call HB.out⟩, OFN.out, HB.out⟩
  exact AllReadyH.nil
 exact AllReadyH.nil
set_option maxHeartbeats 16000000 in
set_option maxRecDepth 100000 in
theorem done_ans {dc ka kb : Int} {T : TypeId} {v : Value} {s : ByteArray} (hd : ∀ W : World, SM W (.slice A1 2 c1) (.slice A2 1 c2) (.slice A3 3 c3) eA sA3 → Calls Tryz.prog 88 #[.agg #[.int .i64 3, .int .i64 2, .int .i64 1, .slice A1 2 c1, .slice A2 1 c2, .slice A3 3 c3], .agg #[.int .i64 dc, .int .u64 ka, .int .u64 kb, .string ⟨#[]⟩]] W (DoAns A1 A2 A3 c1 c2 c3 T v W)) (ht : ∀ W : World, Calls Tryz.prog 37 #[.iface T v] W fun e w' => e = .returned (.string s) ∧ Below W.heap.size W w') (hm : SM w (.slice A1 2 c1) (.slice A2 1 c2) (.slice A3 3 c3) eA sA3) : Calls Tryz.prog 65 #[seN A1 c1 A2 1 c2 A3 c3 Aw cw, .agg #[.int .i64 dc, .int .u64 ka, .int .u64 kb, .string ⟨#[]⟩]] w (LnAns A1 A2 A3 Aw c1 c2 c3 cw s w) := by
 unfold seN
 have HD := hid hd
 have HT := hid ht
 clear hd ht
 have HM := hid hm
 have SM_ := hid hm
 clear hm
 obtain ⟨w1, hw1⟩ : ∃ W, W = w.alloc (.cells #[.int .i64 3, .int .i64 2, .int .i64 1, .slice A1 2 c1, .slice A2 1 c2, .slice A3 3 c3, .slice Aw 4 cw, .int .i64 4, .bool true] 87) := ⟨_, rfl⟩
 obtain ⟨K2, hK2⟩ : ∃ K, K = w.heap.size := ⟨_, rfl⟩
 obtain ⟨w2, hw2⟩ : ∃ W, W = w1.alloc (.cells #[.int .i64 dc, .int .u64 ka, .int .u64 kb, .string ⟨#[]⟩] 124) := ⟨_, rfl⟩
 obtain ⟨K3, hK3⟩ : ∃ K, K = K2 + 1 := ⟨_, rfl⟩
 obtain ⟨w3, hw3⟩ : ∃ W, W = w2.alloc (.cells #[.int .i64 0, .int .i64 0, .int .i64 0, .slice none 0 0, .slice none 0 0, .slice none 0 0, .slice none 0 0, .int .i64 0, .bool false] 87) := ⟨_, rfl⟩
 obtain ⟨K4, hK4⟩ : ∃ K, K = K3 + 1 := ⟨_, rfl⟩
 have zw1 : w1.heap.size = K2 + 1 := by rw [hw1, hK2]; simp
 have zw2 : w2.heap.size = K2 + 2 := by rw [hw2]; simp; exact zw1
 have zw3 : w3.heap.size = K2 + 3 := by rw [hw3]; simp; exact zw2
 have D_K2 : Hid (Blk w3 K2 87 [.int .i64 3, .int .i64 2, .int .i64 1, .slice A1 2 c1, .slice A2 1 c2, .slice A3 3 c3, .slice Aw 4 cw, .int .i64 4, .bool true]) := hid (by rw [hK2]; rw [hw3, hw2, hw1]; exact ((Blk.new _ _ _).alloc _).alloc _)
 have LO_K2 : Hid (w.heap.size ≤ K2) := hid (by omega)
 have D_K3 : Hid (Blk w3 K3 124 [.int .i64 dc, .int .u64 ka, .int .u64 kb, .string ⟨#[]⟩]) := hid (by rw [show K3 = w1.heap.size by omega]; rw [hw3, hw2]; exact (Blk.new _ _ _).alloc _)
 have LO_K3 : Hid (w.heap.size ≤ K3) := hid (by omega)
 have D_K4 : Hid (Blk w3 K4 87 [.int .i64 0, .int .i64 0, .int .i64 0, .slice none 0 0, .slice none 0 0, .slice none 0 0, .slice none 0 0, .int .i64 0, .bool false]) := hid (by rw [show K4 = w2.heap.size by omega]; rw [hw3]; exact Blk.new _ _ _)
 have LO_K4 : Hid (w.heap.size ≤ K4) := hid (by omega)
 have NE_K2_K3 : Hid (K2 ≠ K3) := hid (by omega)
 have NE_K2_K4 : Hid (K2 ≠ K4) := hid (by omega)
 have NE_K3_K4 : Hid (K3 ≠ K4) := hid (by omega)
 have HB : Hid (Below w.heap.size w w3) := hid (by rw [hw3, hw2, hw1]; exact Bl.new (Bl.new (bel_new _ _) _) _)
 replace SM_ := hid (SM_.out.call HB.out)
 have HW_w1 := hid hw1
 have HK_K2 := hid hK2
 have HW_w2 := hid hw2
 have HK_K3 := hid hK3
 have HW_w3 := hid hw3
 have HK_K4 := hid hK4
 clear hw1 hw2 hw3 hK2 hK3 hK4 zw1 zw2 zw3
 go_enter Tryz.func65, Tryz.ntmps65
 go_upto_region 1 with (fail)
 rw [← HW_w1.out, ← HK_K2.out, ← HK_K3.out, ← HW_w2.out, ← HK_K4.out, ← HW_w3.out]
 have cK20 := D_K2.out.cell 0
 have cK21 := D_K2.out.cell 1
 have cK22 := D_K2.out.cell 2
 have cK23 := D_K2.out.cell 3
 have cK24 := D_K2.out.cell 4
 have cK25 := D_K2.out.cell 5
 have cK26 := D_K2.out.cell 6
 have cK27 := D_K2.out.cell 7
 have cK28 := D_K2.out.cell 8
 have cK30 := D_K3.out.cell 0
 have cK31 := D_K3.out.cell 1
 have cK32 := D_K3.out.cell 2
 have cK33 := D_K3.out.cell 3
 have L4 : Hid (K2 < w3.heap.size ∧ K4 < w3.heap.size) := hid ⟨D_K2.out.lt, D_K4.out.lt⟩
 go_wp2_with fail
 have HBk := hid HB.out.size
 refine (HD.out _ SM_.out).mono ?_; rintro e w4 ⟨rfl, b_⟩
 clear cK20 cK21 cK22 cK23 cK24 cK25 cK26 cK27 cK28 cK30 cK31 cK32 cK33
 replace D_K2 := hid (D_K2.out.on b_)
 replace D_K3 := hid (D_K3.out.on b_)
 replace D_K4 := hid (D_K4.out.on b_)
 replace SM_ := hid (SM_.out.call b_)
 replace HB := hid (Bl.call HB.out b_)
 clear b_
 clear L4
 go_upto_region 4 with (fail)
 obtain ⟨w5, hw5⟩ : ∃ W, W = w4.alloc (.cells #[.int .i64 3, .int .i64 2, .int .i64 1, .slice A1 2 c1, .slice A2 1 c2, .slice A3 3 c3] 85) := ⟨_, rfl⟩
 obtain ⟨K6, hK6⟩ : ∃ K, K = w4.heap.size := ⟨_, rfl⟩
 have b_ := bel_new w4 (.cells #[.int .i64 3, .int .i64 2, .int .i64 1, .slice A1 2 c1, .slice A2 1 c2, .slice A3 3 c3] 85)
 rw [← hw5] at b_
 have D_K6 : Hid (Blk w5 K6 85 [.int .i64 3, .int .i64 2, .int .i64 1, .slice A1 2 c1, .slice A2 1 c2, .slice A3 3 c3]) := hid (by rw [hw5, hK6]; exact Blk.new _ _ _)
 have LO_K6 : Hid (w.heap.size ≤ K6) := hid (by rw [hK6]; exact HB.out.size)
 have NE_K2_K6 : Hid (K2 ≠ K6) := hid (by have := D_K2.out.lt; rw [hK6]; omega)
 have NE_K3_K6 : Hid (K3 ≠ K6) := hid (by have := D_K3.out.lt; rw [hK6]; omega)
 have NE_K4_K6 : Hid (K4 ≠ K6) := hid (by have := D_K4.out.lt; rw [hK6]; omega)
 replace D_K2 := hid (D_K2.out.on b_)
 replace D_K3 := hid (D_K3.out.on b_)
 replace D_K4 := hid (D_K4.out.on b_)
 replace SM_ := hid (SM_.out.call b_)
 replace HB := hid (Bl.call HB.out b_)
 rw [← hw5, ← hK6]
 have HW_w5 := hid hw5
 have HK_K6 := hid hK6
 clear b_ hw5 hK6
 clear SM_
 have cK60 := D_K6.out.cell 0
 have cK61 := D_K6.out.cell 1
 have cK62 := D_K6.out.cell 2
 have cK63 := D_K6.out.cell 3
 have cK64 := D_K6.out.cell 4
 have cK65 := D_K6.out.cell 5
 have cK20 := D_K2.out.cell 0
 have cK21 := D_K2.out.cell 1
 have cK22 := D_K2.out.cell 2
 have cK23 := D_K2.out.cell 3
 have cK24 := D_K2.out.cell 4
 have cK25 := D_K2.out.cell 5
 have cK26 := D_K2.out.cell 6
 have cK27 := D_K2.out.cell 7
 have cK28 := D_K2.out.cell 8
 have fK20 := D_K2.out.frozen 0
 have fK21 := D_K2.out.frozen 1
 have fK22 := D_K2.out.frozen 2
 have fK23 := D_K2.out.frozen 3
 have fK24 := D_K2.out.frozen 4
 have fK25 := D_K2.out.frozen 5
 have fK26 := D_K2.out.frozen 6
 have fK27 := D_K2.out.frozen 7
 have fK28 := D_K2.out.frozen 8
 obtain ⟨w6, hw6⟩ : ∃ W, W = ((((((w5.setCell ⟨K2, 0, none⟩ (.int .i64 3)).setCell ⟨K2, 1, none⟩ (.int .i64 2)).setCell ⟨K2, 2, none⟩ (.int .i64 1)).setCell ⟨K2, 3, none⟩ (.slice A1 2 c1)).setCell ⟨K2, 4, none⟩ (.slice A2 1 c2)).setCell ⟨K2, 5, none⟩ (.slice A3 3 c3)) := ⟨_, rfl⟩
 have E_K2 : Hid (Blk w6 K2 87 [.int .i64 3, .int .i64 2, .int .i64 1, .slice A1 2 c1, .slice A2 1 c2, .slice A3 3 c3, .slice Aw 4 cw, .int .i64 4, .bool true]) := hid (by rw [hw6]; exact ((((((D_K2.out).put 0 _).put 1 _).put 2 _).put 3 _).put 4 _).put 5 _)
 have E_K3 : Hid (Blk w6 K3 124 [.int .i64 dc, .int .u64 ka, .int .u64 kb, .string ⟨#[]⟩]) := hid (by rw [hw6]; exact ((((((D_K3.out).far (p := ⟨K2, 0, none⟩) NE_K2_K3.out.symm _).far (p := ⟨K2, 1, none⟩) NE_K2_K3.out.symm _).far (p := ⟨K2, 2, none⟩) NE_K2_K3.out.symm _).far (p := ⟨K2, 3, none⟩) NE_K2_K3.out.symm _).far (p := ⟨K2, 4, none⟩) NE_K2_K3.out.symm _).far (p := ⟨K2, 5, none⟩) NE_K2_K3.out.symm _)
 have E_K4 : Hid (Blk w6 K4 87 [.int .i64 0, .int .i64 0, .int .i64 0, .slice none 0 0, .slice none 0 0, .slice none 0 0, .slice none 0 0, .int .i64 0, .bool false]) := hid (by rw [hw6]; exact ((((((D_K4.out).far (p := ⟨K2, 0, none⟩) NE_K2_K4.out.symm _).far (p := ⟨K2, 1, none⟩) NE_K2_K4.out.symm _).far (p := ⟨K2, 2, none⟩) NE_K2_K4.out.symm _).far (p := ⟨K2, 3, none⟩) NE_K2_K4.out.symm _).far (p := ⟨K2, 4, none⟩) NE_K2_K4.out.symm _).far (p := ⟨K2, 5, none⟩) NE_K2_K4.out.symm _)
 have E_K6 : Hid (Blk w6 K6 85 [.int .i64 3, .int .i64 2, .int .i64 1, .slice A1 2 c1, .slice A2 1 c2, .slice A3 3 c3]) := hid (by rw [hw6]; exact ((((((D_K6.out).far (p := ⟨K2, 0, none⟩) NE_K2_K6.out.symm _).far (p := ⟨K2, 1, none⟩) NE_K2_K6.out.symm _).far (p := ⟨K2, 2, none⟩) NE_K2_K6.out.symm _).far (p := ⟨K2, 3, none⟩) NE_K2_K6.out.symm _).far (p := ⟨K2, 4, none⟩) NE_K2_K6.out.symm _).far (p := ⟨K2, 5, none⟩) NE_K2_K6.out.symm _)
 have EB : Hid (Below w.heap.size w w6) := hid (by rw [hw6]; exact ((((((HB.out).setCell (p := ⟨K2, 0, none⟩) LO_K2.out _).setCell (p := ⟨K2, 1, none⟩) LO_K2.out _).setCell (p := ⟨K2, 2, none⟩) LO_K2.out _).setCell (p := ⟨K2, 3, none⟩) LO_K2.out _).setCell (p := ⟨K2, 4, none⟩) LO_K2.out _).setCell (p := ⟨K2, 5, none⟩) LO_K2.out _)
 have HW_w6 := hid hw6
 clear hw6
 go_upto_region 5 with (fail)
 rw [← HW_w6.out]
 clear cK60 cK61 cK62 cK63 cK64 cK65 cK20 cK21 cK22 cK23 cK24 cK25 cK26 cK27 cK28 fK20 fK21 fK22 fK23 fK24 fK25 fK26 fK27 fK28
 clear HB D_K2 D_K3 D_K4 D_K6
 have D_K2 := E_K2
 have D_K3 := E_K3
 have D_K4 := E_K4
 have D_K6 := E_K6
 have HB := EB
 clear EB E_K2 E_K3 E_K4 E_K6
 have cK20 := D_K2.out.cell 0
 have cK21 := D_K2.out.cell 1
 have cK22 := D_K2.out.cell 2
 have cK23 := D_K2.out.cell 3
 have cK24 := D_K2.out.cell 4
 have cK25 := D_K2.out.cell 5
 have cK26 := D_K2.out.cell 6
 have cK27 := D_K2.out.cell 7
 have cK28 := D_K2.out.cell 8
 refine wp_region_held_drew (S := fun w' => w'.cell? ⟨K2, 0, none⟩ = some (.int .i64 3) ∧ w'.cell? ⟨K2, 1, none⟩ = some (.int .i64 2) ∧ w'.cell? ⟨K2, 2, none⟩ = some (.int .i64 1) ∧ w'.cell? ⟨K2, 3, none⟩ = some (.slice A1 2 c1) ∧ w'.cell? ⟨K2, 4, none⟩ = some (.slice A2 1 c2) ∧ w'.cell? ⟨K2, 5, none⟩ = some (.slice A3 3 c3) ∧ w'.cell? ⟨K2, 6, none⟩ = some (.slice Aw 4 cw) ∧ w'.cell? ⟨K2, 7, none⟩ = some (.int .i64 4) ∧ w'.cell? ⟨K2, 8, none⟩ = some (.bool true)) (by kernel_rfl) ⟨D_K2.out.cell 0, D_K2.out.cell 1, D_K2.out.cell 2, D_K2.out.cell 3, D_K2.out.cell 4, D_K2.out.cell 5, D_K2.out.cell 6, D_K2.out.cell 7, D_K2.out.cell 8⟩ (fun hHeld => ?_)
 clear cK20 cK21 cK22 cK23 cK24 cK25 cK26 cK27 cK28
 refine wpAnyH_take (i := 0) (oi := _) (v := ?_) rfl (by kernel_rfl) (by kernel_rfl) (by kernel_rfl) (fun _ _ _ h => h) (.inl ⟨by rfl, ?_⟩) (by assumption) ?_
 rotate_left
 · intro w hSw; obtain ⟨y0, y1, y2, y3, y4, y5, y6, y7, y8⟩ := hSw; go_simp; try (with_reducible rfl)
 (try simp only [Act.put, putL])
 refine wpAnyH_take (i := 1) (oi := _) (v := ?_) rfl (by kernel_rfl) (by kernel_rfl) (by kernel_rfl) (fun _ _ _ h => h) (.inl ⟨by rfl, ?_⟩) (by assumption) ?_
 rotate_left
 · intro w hSw; obtain ⟨y0, y1, y2, y3, y4, y5, y6, y7, y8⟩ := hSw; go_simp; try (with_reducible rfl)
 (try simp only [Act.put, putL])
 refine wpAnyH_ready (rs := [2]) (by kernel_rfl) (by simp) ?_
 refine AllReadyH.cons (o := _) rfl (fun K hK => ?_) ?_
 ·
  go_simp
  go_at_call 37
  replace HBk := hid HB.out.size
  refine (HT.out _).mono ?_; rintro e w7 ⟨rfl, b0_⟩
  have b_ : Below w6.heap.size w6 w7 := Bl.call (Bl.qt (Below.refl _ _) (qt_drew _)) b0_
  replace D_K2 := hid (D_K2.out.on b_)
  replace D_K3 := hid (D_K3.out.on b_)
  replace D_K4 := hid (D_K4.out.on b_)
  replace D_K6 := hid (D_K6.out.on b_)
  replace HB := hid (Bl.call HB.out b_)
  clear b_ b0_
  refine hK.out _ _ ?_ (fun hHeld => ?_)
  · exact ⟨D_K2.out.cell 0, D_K2.out.cell 1, D_K2.out.cell 2, D_K2.out.cell 3, D_K2.out.cell 4, D_K2.out.cell 5, D_K2.out.cell 6, D_K2.out.cell 7, D_K2.out.cell 8⟩
  clear hK K
  (try simp only [Act.put, putL])
  have cK40 := D_K4.out.cell 0
  have cK41 := D_K4.out.cell 1
  have cK42 := D_K4.out.cell 2
  have cK43 := D_K4.out.cell 3
  have cK44 := D_K4.out.cell 4
  have cK45 := D_K4.out.cell 5
  have cK46 := D_K4.out.cell 6
  have cK47 := D_K4.out.cell 7
  have cK48 := D_K4.out.cell 8
  have fK40 := D_K4.out.frozen 0
  have fK41 := D_K4.out.frozen 1
  have fK42 := D_K4.out.frozen 2
  have fK43 := D_K4.out.frozen 3
  have fK44 := D_K4.out.frozen 4
  have fK45 := D_K4.out.frozen 5
  have fK46 := D_K4.out.frozen 6
  have fK47 := D_K4.out.frozen 7
  have fK48 := D_K4.out.frozen 8
  obtain ⟨w8, hw8⟩ : ∃ W, W = (((((((((w7.setCell ⟨K4, 0, none⟩ (.int .i64 3)).setCell ⟨K4, 1, none⟩ (.int .i64 2)).setCell ⟨K4, 2, none⟩ (.int .i64 1)).setCell ⟨K4, 3, none⟩ (.slice A1 2 c1)).setCell ⟨K4, 4, none⟩ (.slice A2 1 c2)).setCell ⟨K4, 5, none⟩ (.slice A3 3 c3)).setCell ⟨K4, 6, none⟩ (.slice Aw 4 cw)).setCell ⟨K4, 7, none⟩ (.int .i64 4)).setCell ⟨K4, 8, none⟩ (.bool true)) := ⟨_, rfl⟩
  have E_K2 : Hid (Blk w8 K2 87 [.int .i64 3, .int .i64 2, .int .i64 1, .slice A1 2 c1, .slice A2 1 c2, .slice A3 3 c3, .slice Aw 4 cw, .int .i64 4, .bool true]) := hid (by rw [hw8]; exact (((((((((D_K2.out).far (p := ⟨K4, 0, none⟩) NE_K2_K4.out _).far (p := ⟨K4, 1, none⟩) NE_K2_K4.out _).far (p := ⟨K4, 2, none⟩) NE_K2_K4.out _).far (p := ⟨K4, 3, none⟩) NE_K2_K4.out _).far (p := ⟨K4, 4, none⟩) NE_K2_K4.out _).far (p := ⟨K4, 5, none⟩) NE_K2_K4.out _).far (p := ⟨K4, 6, none⟩) NE_K2_K4.out _).far (p := ⟨K4, 7, none⟩) NE_K2_K4.out _).far (p := ⟨K4, 8, none⟩) NE_K2_K4.out _)
  have E_K3 : Hid (Blk w8 K3 124 [.int .i64 dc, .int .u64 ka, .int .u64 kb, .string ⟨#[]⟩]) := hid (by rw [hw8]; exact (((((((((D_K3.out).far (p := ⟨K4, 0, none⟩) NE_K3_K4.out _).far (p := ⟨K4, 1, none⟩) NE_K3_K4.out _).far (p := ⟨K4, 2, none⟩) NE_K3_K4.out _).far (p := ⟨K4, 3, none⟩) NE_K3_K4.out _).far (p := ⟨K4, 4, none⟩) NE_K3_K4.out _).far (p := ⟨K4, 5, none⟩) NE_K3_K4.out _).far (p := ⟨K4, 6, none⟩) NE_K3_K4.out _).far (p := ⟨K4, 7, none⟩) NE_K3_K4.out _).far (p := ⟨K4, 8, none⟩) NE_K3_K4.out _)
  have E_K4 : Hid (Blk w8 K4 87 [.int .i64 3, .int .i64 2, .int .i64 1, .slice A1 2 c1, .slice A2 1 c2, .slice A3 3 c3, .slice Aw 4 cw, .int .i64 4, .bool true]) := hid (by rw [hw8]; exact (((((((((D_K4.out).put 0 _).put 1 _).put 2 _).put 3 _).put 4 _).put 5 _).put 6 _).put 7 _).put 8 _)
  have E_K6 : Hid (Blk w8 K6 85 [.int .i64 3, .int .i64 2, .int .i64 1, .slice A1 2 c1, .slice A2 1 c2, .slice A3 3 c3]) := hid (by rw [hw8]; exact (((((((((D_K6.out).far (p := ⟨K4, 0, none⟩) NE_K4_K6.out.symm _).far (p := ⟨K4, 1, none⟩) NE_K4_K6.out.symm _).far (p := ⟨K4, 2, none⟩) NE_K4_K6.out.symm _).far (p := ⟨K4, 3, none⟩) NE_K4_K6.out.symm _).far (p := ⟨K4, 4, none⟩) NE_K4_K6.out.symm _).far (p := ⟨K4, 5, none⟩) NE_K4_K6.out.symm _).far (p := ⟨K4, 6, none⟩) NE_K4_K6.out.symm _).far (p := ⟨K4, 7, none⟩) NE_K4_K6.out.symm _).far (p := ⟨K4, 8, none⟩) NE_K4_K6.out.symm _)
  have EB : Hid (Below w.heap.size w w8) := hid (by rw [hw8]; exact (((((((((HB.out).setCell (p := ⟨K4, 0, none⟩) LO_K4.out _).setCell (p := ⟨K4, 1, none⟩) LO_K4.out _).setCell (p := ⟨K4, 2, none⟩) LO_K4.out _).setCell (p := ⟨K4, 3, none⟩) LO_K4.out _).setCell (p := ⟨K4, 4, none⟩) LO_K4.out _).setCell (p := ⟨K4, 5, none⟩) LO_K4.out _).setCell (p := ⟨K4, 6, none⟩) LO_K4.out _).setCell (p := ⟨K4, 7, none⟩) LO_K4.out _).setCell (p := ⟨K4, 8, none⟩) LO_K4.out _)
  have HW_w8 := hid hw8
  clear hw8
  refine wpAnyH_ready (rs := [3]) (by kernel_rfl) (by simp) ?_
  refine AllReadyH.cons (o := _) rfl (fun K hK => ?_) ?_
  ·
   go_simp
   rw [← HW_w8.out]
   refine hK.out _ _ ?_ (fun hHeld => ?_)
   · exact ⟨E_K2.out.cell 0, E_K2.out.cell 1, E_K2.out.cell 2, E_K2.out.cell 3, E_K2.out.cell 4, E_K2.out.cell 5, E_K2.out.cell 6, E_K2.out.cell 7, E_K2.out.cell 8⟩
   clear hK K
   (try simp only [Act.put, putL])
   clear cK40 cK41 cK42 cK43 cK44 cK45 cK46 cK47 cK48 fK40 fK41 fK42 fK43 fK44 fK45 fK46 fK47 fK48
   clear HB D_K2 D_K3 D_K4 D_K6
   have D_K2 := E_K2
   have D_K3 := E_K3
   have D_K4 := E_K4
   have D_K6 := E_K6
   have HB := EB
   clear EB E_K2 E_K3 E_K4 E_K6
   refine wpAnyH_take (i := 4) (oi := _) (v := ?_) rfl (by kernel_rfl) (by kernel_rfl) (by kernel_rfl) (fun _ _ _ h => h) (.inl ⟨by rfl, ?_⟩) (by assumption) ?_
   rotate_left
   · intro w hSw; obtain ⟨y0, y1, y2, y3, y4, y5, y6, y7, y8⟩ := hSw; go_simp; try (with_reducible rfl)
   (try simp only [Act.put, putL])
   refine wpAnyH_done (by kernel_rfl) ?_ _
   have cK40 := D_K4.out.cell 0
   have cK41 := D_K4.out.cell 1
   have cK42 := D_K4.out.cell 2
   have cK43 := D_K4.out.cell 3
   have cK44 := D_K4.out.cell 4
   have cK45 := D_K4.out.cell 5
   have cK46 := D_K4.out.cell 6
   have cK47 := D_K4.out.cell 7
   have cK48 := D_K4.out.cell 8
   go_wp2
   exact bodyPost_ret (v := .tuple #[.agg #[.int .i64 3, .int .i64 2, .int .i64 1, .slice A1 2 c1, .slice A2 1 c2, .slice A3 3 c3, .slice Aw 4 cw, .int .i64 4, .bool true], .string s]) (by simp [results, Tryz.results65, go_sem, cK40, cK41, cK42, cK43, cK44, cK45, cK46, cK47, cK48]) rfl ⟨rfl, HB.out⟩
  exact AllReadyH.nil
 exact AllReadyH.nil
theorem done_conn1 (hm : SM w (.slice A1 2 c1) (.slice A2 1 c2) (.slice A3 3 c3) eA sA3) : Calls Tryz.prog 65 #[seN A1 c1 A2 1 c2 A3 c3 Aw cw, .agg #[.int .i64 8, .int .u64 4, .int .u64 6, .string ⟨#[]⟩]] w (LnAns A1 A2 A3 Aw c1 c2 c3 cw ⟨#[121, 101, 115]⟩ w) := done_ans (fun _ h => do_conn1 h) (fun W => tellb_yes W) hm
theorem done_conn2 (hm : SM w (.slice A1 2 c1) (.slice A2 1 c2) (.slice A3 3 c3) eA sA3) : Calls Tryz.prog 65 #[seN A1 c1 A2 1 c2 A3 c3 Aw cw, .agg #[.int .i64 8, .int .u64 4, .int .u64 8, .string ⟨#[]⟩]] w (LnAns A1 A2 A3 Aw c1 c2 c3 cw ⟨#[110, 111]⟩ w) := done_ans (fun _ h => do_conn2 h) (fun W => tellb_no W) hm
theorem done_audit (hm : SM w (.slice A1 2 c1) (.slice A2 1 c2) (.slice A3 3 c3) eA sA3) : Calls Tryz.prog 65 #[seN A1 c1 A2 1 c2 A3 c3 Aw cw, .agg #[.int .i64 13, .int .u64 0, .int .u64 0, .string ⟨#[]⟩]] w (LnAns A1 A2 A3 Aw c1 c2 c3 cw ⟨#[121, 101, 115]⟩ w) := done_ans (fun _ h => do_audit h) (fun W => tellb_yes W) hm
theorem done_size (hm : SM w (.slice A1 2 c1) (.slice A2 1 c2) (.slice A3 3 c3) eA sA3) : Calls Tryz.prog 65 #[seN A1 c1 A2 1 c2 A3 c3 Aw cw, .agg #[.int .i64 9, .int .u64 6, .int .u64 0, .string ⟨#[]⟩]] w (LnAns A1 A2 A3 Aw c1 c2 c3 cw ⟨#[50]⟩ w) := done_ans (fun _ h => do_size h) (fun W => tellb_2 W) hm
end Go.Proofs.YtahodfikhocobaaGreatDoor
