/- The texts AwQ, AwR, AwS, AwU, AwV, AwW, merged. No theorem here is a claim by itself. -/
import Derived.Test.YtahodfikhocobaaGreatDoorMb12
import Derived.Lib.Builder
import Derived.Lib.AppendStr
import Derived.Lib.UnsafeStr
import Derived.Laws.Externs
namespace Go.Proofs.YtahodfikhocobaaGreatDoor
open Go.RowKit
set_option linter.unusedVariables false
set_option linter.unusedSimpArgs false
attribute [local go_sem ↓] Go.wp_at_zero Go.wp_at_succ
variable {Aw : Option Addr} {cw : Nat} {w : World}
def LnNew (Aw : Option Addr) (cw : Nat) (w : World) (e : Ending) (w' : World) : Prop := ∃ A1 c1 A3 c3, e = .returned (.tuple #[seN A1 c1 none 0 0 A3 c3 Aw cw, .string ⟨#[111, 107]⟩]) ∧ SM w' (.slice A1 2 c1) (.slice none 0 0) (.slice A3 3 c3) [] sA0 ∧ (∀ K, K < w.heap.size → Off K (.slice A1 2 c1) ∧ Off K (.slice A3 3 c3)) ∧ Below w.heap.size w w'
set_option maxHeartbeats 16000000 in
set_option maxRecDepth 100000 in
theorem begun_ok {Ag : Option Addr} {cg : Nat} (ha : Sl w w.heap.size 1 (.slice Ag 3 cg) 3 (us [3, 2, 1])) (hw : Sl w w.heap.size 1 (.slice Aw 4 cw) 4 (us [7, 1, 9, 2])) : Calls Tryz.prog 67 #[.agg #[.int .i64 0, .int .i64 0, .int .i64 0, .slice none 0 0, .slice none 0 0, .slice none 0 0, .slice Aw 4 cw, .int .i64 0, .bool false], .int .i64 (-1), .slice Ag 3 cg] w (LnNew Aw cw w) := by
 have SA := hid ha
 have SW := hid hw
 clear ha hw
 obtain ⟨w1, hw1⟩ : ∃ W, W = w.alloc (.cells #[.int .i64 0, .int .i64 0, .int .i64 0, .slice none 0 0, .slice none 0 0, .slice none 0 0, .slice Aw 4 cw, .int .i64 0, .bool false] 87) := ⟨_, rfl⟩
 obtain ⟨K3, hK3⟩ : ∃ K, K = w.heap.size := ⟨_, rfl⟩
 obtain ⟨w2, hw2⟩ : ∃ W, W = w1.alloc (.cells #[.int .i64 0, .int .i64 0, .int .i64 0, .slice none 0 0, .slice none 0 0, .slice none 0 0, .slice none 0 0, .int .i64 0, .bool false] 87) := ⟨_, rfl⟩
 obtain ⟨K6, hK6⟩ : ∃ K, K = K3 + 1 := ⟨_, rfl⟩
 have zw1 : w1.heap.size = K3 + 1 := by rw [hw1, hK3]; simp
 have zw2 : w2.heap.size = K3 + 2 := by rw [hw2]; simp; exact zw1
 have D_K3 : Hid (Blk w2 K3 87 [.int .i64 0, .int .i64 0, .int .i64 0, .slice none 0 0, .slice none 0 0, .slice none 0 0, .slice Aw 4 cw, .int .i64 0, .bool false]) := hid (by rw [hK3]; rw [hw2, hw1]; exact (Blk.new _ _ _).alloc _)
 have LO_K3 : Hid (w.heap.size ≤ K3) := hid (by omega)
 have D_K6 : Hid (Blk w2 K6 87 [.int .i64 0, .int .i64 0, .int .i64 0, .slice none 0 0, .slice none 0 0, .slice none 0 0, .slice none 0 0, .int .i64 0, .bool false]) := hid (by rw [show K6 = w1.heap.size by omega]; rw [hw2]; exact Blk.new _ _ _)
 have LO_K6 : Hid (w.heap.size ≤ K6) := hid (by omega)
 have NE_K3_K6 : Hid (K3 ≠ K6) := hid (by omega)
 have HB : Hid (Below w.heap.size w w2) := hid (by rw [hw2, hw1]; exact Bl.new (bel_new _ _) _)
 replace SA := hid (SA.out.call HB.out)
 replace SW := hid (SW.out.call HB.out)
 have HW_w1 := hid hw1
 have HK_K3 := hid hK3
 have HW_w2 := hid hw2
 have HK_K6 := hid hK6
 clear hw1 hw2 hK3 hK6 zw1 zw2
 go_enter Tryz.func67, Tryz.ntmps67
 go_upto_region 1 with (fail)
 rw [← HW_w1.out, ← HK_K3.out, ← HK_K6.out, ← HW_w2.out]
 obtain ⟨_, _, he, _, _, _, hx⟩ := id SA.out
 injection he with e1 e2 e3
 subst e1 e3
 obtain ⟨b, o, rfl, hb, hc⟩ := hx (by omega)
 have X0 : Hid (w2.cell? ⟨b, o, none⟩ = some (.int .u64 3)) := hid (hc 0 _ rfl)
 have X1 : Hid (w2.cell? ⟨b, o + 1, none⟩ = some (.int .u64 2)) := hid (hc 1 _ rfl)
 have X2 : Hid (w2.cell? ⟨b, o + 2, none⟩ = some (.int .u64 1)) := hid (hc 2 _ rfl)
 clear hx hc hb
 go_wp2_with fail
 go_loopw [20] (fun iv wr => ∃ i : Nat, iv = .int .i64 (i : Int) ∧ i ≤ 3 ∧ wr = w2) (fun iv _ => 3 - (intOf iv).toNat)
 case atStart => exact ⟨0, rfl, by omega, rfl⟩
 case round =>
  obtain ⟨i, rfl, hi, rfl⟩ := hrel
  by_cases h0 : i = 0
  case pos =>
   subst h0
   have x := X0.out
   go_wp2_with fail
   go_roundw
   case rel => exact ⟨1, rfl, by omega, by first | rfl | trivial⟩
   case measure => simp [intOf]
  case neg =>
   by_cases h1 : i = 1
   case pos =>
    subst h1
    have x := X1.out
    go_wp2_with fail
    go_roundw
    case rel => exact ⟨2, rfl, by omega, by first | rfl | trivial⟩
    case measure => simp [intOf]
   case neg =>
    by_cases h2 : i = 2
    case pos =>
     subst h2
     have x := X2.out
     go_wp2_with fail
     go_roundw
     case rel => exact ⟨3, rfl, by omega, by first | rfl | trivial⟩
     case measure => simp [intOf]
    case neg =>
     obtain rfl : i = 3 := by omega
     have x0 := X0.out
     have x1 := X1.out
     have x2 := X2.out
     have q3 : IntKind.i64.wrap 3 = 3 := by decide
     have q2 : IntKind.i64.wrap 2 = 2 := by decide
     have q1 : IntKind.i64.wrap 1 = 1 := by decide
     go_upto_region 7 with (fail)
     go_quiet (fail)
     obtain ⟨w3, hw3⟩ : ∃ W, W = wr.drewN nq := ⟨_, rfl⟩
     have b_ : Below wr.heap.size wr w3 := by rw [hw3]; exact (qt_of _ _).bel
     clear x0 x1 x2 q1 q2 q3
     replace D_K3 := hid (D_K3.out.on b_)
     replace D_K6 := hid (D_K6.out.on b_)
     replace SA := hid (SA.out.call b_)
     replace SW := hid (SW.out.call b_)
     replace HB := hid (Bl.call HB.out b_)
     rw [← hw3]
     clear b_ hw3
     go_upto_region 9 with (fail)
     obtain ⟨w4, hw4⟩ : ∃ W, W = w3.alloc (.cells #[.int .i64 3, .int .i64 2, .int .i64 1] 23) := ⟨_, rfl⟩
     obtain ⟨K13, hK13⟩ : ∃ K, K = w3.heap.size := ⟨_, rfl⟩
     have b_ := bel_new w3 (.cells #[.int .i64 3, .int .i64 2, .int .i64 1] 23)
     rw [← hw4] at b_
     have D_K13 : Hid (Blk w4 K13 23 [.int .i64 3, .int .i64 2, .int .i64 1]) := hid (by rw [hw4, hK13]; exact Blk.new _ _ _)
     have LO_K13 : Hid (w.heap.size ≤ K13) := hid (by rw [hK13]; exact HB.out.size)
     have NE_K3_K13 : Hid (K3 ≠ K13) := hid (by have := D_K3.out.lt; rw [hK13]; omega)
     have NE_K6_K13 : Hid (K6 ≠ K13) := hid (by have := D_K6.out.lt; rw [hK13]; omega)
     replace D_K3 := hid (D_K3.out.on b_)
     replace D_K6 := hid (D_K6.out.on b_)
     replace SA := hid (SA.out.call b_)
     replace SW := hid (SW.out.call b_)
     replace HB := hid (Bl.call HB.out b_)
     rw [← hw4, ← hK13]
     have HW_w4 := hid hw4
     have HK_K13 := hid hK13
     clear b_ hw4 hK13
     have cK130 := D_K13.out.cell 0
     have cK131 := D_K13.out.cell 1
     have cK132 := D_K13.out.cell 2
     have cK30 := D_K3.out.cell 0
     have cK31 := D_K3.out.cell 1
     have cK32 := D_K3.out.cell 2
     have cK33 := D_K3.out.cell 3
     have cK34 := D_K3.out.cell 4
     have cK35 := D_K3.out.cell 5
     have cK36 := D_K3.out.cell 6
     have cK37 := D_K3.out.cell 7
     have cK38 := D_K3.out.cell 8
     have L6 : Hid (K6 < w4.heap.size) := hid D_K6.out.lt
     go_wp2_with fail
     have HBk := hid HB.out.size
     refine (inew_ok SW.out).mono ?_; rintro e w5 ⟨A1, c1, A3, c3, rfl, SN_, oN, b_⟩
     clear cK130 cK131 cK132 cK30 cK31 cK32 cK33 cK34 cK35 cK36 cK37 cK38
     replace D_K3 := hid (D_K3.out.on b_)
     replace D_K6 := hid (D_K6.out.on b_)
     replace D_K13 := hid (D_K13.out.on b_)
     replace SA := hid (SA.out.call b_)
     replace SW := hid (SW.out.call b_)
     replace HB := hid (Bl.call HB.out b_)
     have SN := hid SN_
     clear SN_
     clear b_
     have OFN : Hid (∀ K, K < w.heap.size → Off K (.slice A1 2 c1) ∧ Off K (.slice A3 3 c3)) := hid (fun K hK => oN K (by have := HBk.out; omega))
     have OG : Hid (Off K6 (.slice A1 2 c1) ∧ Off K6 (.slice A3 3 c3)) := hid (oN K6 L6.out)
     clear oN L6
     go_upto_region 15 with (fail)
     obtain ⟨w6, hw6⟩ : ∃ W, W = w5.alloc (.cells #[.int .i64 3, .int .i64 2, .int .i64 1, .slice A1 2 c1, .slice none 0 0, .slice A3 3 c3] 85) := ⟨_, rfl⟩
     obtain ⟨K15, hK15⟩ : ∃ K, K = w5.heap.size := ⟨_, rfl⟩
     have b_ := bel_new w5 (.cells #[.int .i64 3, .int .i64 2, .int .i64 1, .slice A1 2 c1, .slice none 0 0, .slice A3 3 c3] 85)
     rw [← hw6] at b_
     have D_K15 : Hid (Blk w6 K15 85 [.int .i64 3, .int .i64 2, .int .i64 1, .slice A1 2 c1, .slice none 0 0, .slice A3 3 c3]) := hid (by rw [hw6, hK15]; exact Blk.new _ _ _)
     have LO_K15 : Hid (w.heap.size ≤ K15) := hid (by rw [hK15]; exact HB.out.size)
     have NE_K3_K15 : Hid (K3 ≠ K15) := hid (by have := D_K3.out.lt; rw [hK15]; omega)
     have NE_K6_K15 : Hid (K6 ≠ K15) := hid (by have := D_K6.out.lt; rw [hK15]; omega)
     have NE_K13_K15 : Hid (K13 ≠ K15) := hid (by have := D_K13.out.lt; rw [hK15]; omega)
     replace D_K3 := hid (D_K3.out.on b_)
     replace D_K6 := hid (D_K6.out.on b_)
     replace D_K13 := hid (D_K13.out.on b_)
     replace SA := hid (SA.out.call b_)
     replace SW := hid (SW.out.call b_)
     replace SN := hid (SN.out.call b_)
     replace HB := hid (Bl.call HB.out b_)
     have HW_w6 := hid hw6
     have HK_K15 := hid hK15
     clear b_ hw6 hK15
     rw [← HW_w6.out, ← HK_K15.out]
     have hsz : w6.heap.size = K15 + 1 := by rw [HW_w6.out, HK_K15.out]; simp
     obtain ⟨w7, hw7⟩ : ∃ W, W = w6.alloc (.cells #[.slice Aw 4 cw, .int .i64 4] 82) := ⟨_, rfl⟩
     obtain ⟨K16, hK16⟩ : ∃ K, K = w6.heap.size := ⟨_, rfl⟩
     have b_ := bel_new w6 (.cells #[.slice Aw 4 cw, .int .i64 4] 82)
     rw [← hw7] at b_
     have D_K16 : Hid (Blk w7 K16 82 [.slice Aw 4 cw, .int .i64 4]) := hid (by rw [hw7, hK16]; exact Blk.new _ _ _)
     have LO_K16 : Hid (w.heap.size ≤ K16) := hid (by rw [hK16]; exact HB.out.size)
     have NE_K3_K16 : Hid (K3 ≠ K16) := hid (by have := D_K3.out.lt; rw [hK16]; omega)
     have NE_K6_K16 : Hid (K6 ≠ K16) := hid (by have := D_K6.out.lt; rw [hK16]; omega)
     have NE_K13_K16 : Hid (K13 ≠ K16) := hid (by have := D_K13.out.lt; rw [hK16]; omega)
     have NE_K15_K16 : Hid (K15 ≠ K16) := hid (by have := D_K15.out.lt; rw [hK16]; omega)
     replace D_K3 := hid (D_K3.out.on b_)
     replace D_K6 := hid (D_K6.out.on b_)
     replace D_K13 := hid (D_K13.out.on b_)
     replace D_K15 := hid (D_K15.out.on b_)
     replace SA := hid (SA.out.call b_)
     replace SW := hid (SW.out.call b_)
     replace SN := hid (SN.out.call b_)
     replace HB := hid (Bl.call HB.out b_)
     have HW_w7 := hid hw7
     have HK_K16 := hid hK16
     clear b_ hw7 hK16
     rw [show K15 + 1 = K16 by rw [HK_K16.out, hsz], ← HW_w7.out]
     clear hsz
     go_upto_region 17 with (fail)
     have SN1 := hid SN.out.sh
     have SN3 := hid SN.out.ss
     clear SN SA SW
     refine wp_region_held_drew (S := fun w' => w'.cell? ⟨K15, 0, none⟩ = some (.int .i64 3) ∧ w'.cell? ⟨K15, 1, none⟩ = some (.int .i64 2) ∧ w'.cell? ⟨K15, 2, none⟩ = some (.int .i64 1) ∧ w'.cell? ⟨K15, 3, none⟩ = some (.slice A1 2 c1) ∧ w'.cell? ⟨K15, 4, none⟩ = some (.slice none 0 0) ∧ w'.cell? ⟨K15, 5, none⟩ = some (.slice A3 3 c3) ∧ w'.cell? ⟨K16, 0, none⟩ = some (.slice Aw 4 cw) ∧ w'.cell? ⟨K16, 1, none⟩ = some (.int .i64 4)) (by kernel_rfl) ⟨D_K15.out.cell 0, D_K15.out.cell 1, D_K15.out.cell 2, D_K15.out.cell 3, D_K15.out.cell 4, D_K15.out.cell 5, D_K16.out.cell 0, D_K16.out.cell 1⟩ (fun hHeld => ?_)
     refine wpAnyH_take (i := 0) (oi := _) (v := ?_) rfl (by kernel_rfl) (by kernel_rfl) (by kernel_rfl) (fun _ _ _ h => h) (.inl ⟨by rfl, ?_⟩) (by assumption) ?_
     rotate_left
     · intro w hSw; obtain ⟨y0, y1, y2, y3, y4, y5, y6, y7⟩ := hSw; go_simp; try (with_reducible rfl)
     (try simp only [Act.put, putL])
     refine wpAnyH_take (i := 1) (oi := _) (v := ?_) rfl (by kernel_rfl) (by kernel_rfl) (by kernel_rfl) (fun _ _ _ h => h) (.inl ⟨by rfl, ?_⟩) (by assumption) ?_
     rotate_left
     · intro w hSw; obtain ⟨y0, y1, y2, y3, y4, y5, y6, y7⟩ := hSw; go_simp; try (with_reducible rfl)
     (try simp only [Act.put, putL])
     refine wpAnyH_take (i := 2) (oi := _) (v := ?_) rfl (by kernel_rfl) (by kernel_rfl) (by kernel_rfl) (fun _ _ _ h => h) (.inl ⟨by rfl, ?_⟩) (by assumption) ?_
     rotate_left
     · intro w hSw; obtain ⟨y0, y1, y2, y3, y4, y5, y6, y7⟩ := hSw; go_simp; try (with_reducible rfl)
     (try simp only [Act.put, putL])
     refine wpAnyH_take (i := 3) (oi := _) (v := ?_) rfl (by kernel_rfl) (by kernel_rfl) (by kernel_rfl) (fun _ _ _ h => h) (.inl ⟨by rfl, ?_⟩) (by assumption) ?_
     rotate_left
     · intro w hSw; obtain ⟨y0, y1, y2, y3, y4, y5, y6, y7⟩ := hSw; go_simp; try (with_reducible rfl)
     (try simp only [Act.put, putL])
     refine wpAnyH_ready (rs := [4]) (by kernel_rfl) (by simp) ?_
     refine AllReadyH.cons (o := _) rfl (fun K hK => ?_) ?_
     ·
      go_simp
      go_at_call 37
      replace HBk := hid HB.out.size
      refine (tellb_ok _).mono ?_; rintro e w8 ⟨rfl, b0_⟩
      have b_ : Below w7.heap.size w7 w8 := Bl.call (Bl.qt (Below.refl _ _) (qt_drew _)) b0_
      replace D_K3 := hid (D_K3.out.on b_)
      replace D_K6 := hid (D_K6.out.on b_)
      replace D_K13 := hid (D_K13.out.on b_)
      replace D_K15 := hid (D_K15.out.on b_)
      replace D_K16 := hid (D_K16.out.on b_)
      replace SN1 := hid (SN1.out.call b_)
      replace SN3 := hid (SN3.out.call b_)
      replace HB := hid (Bl.call HB.out b_)
      clear b_ b0_
      refine hK.out _ _ ?_ (fun hHeld => ?_)
      · exact ⟨D_K15.out.cell 0, D_K15.out.cell 1, D_K15.out.cell 2, D_K15.out.cell 3, D_K15.out.cell 4, D_K15.out.cell 5, D_K16.out.cell 0, D_K16.out.cell 1⟩
      clear hK K
      (try simp only [Act.put, putL])
      have cK60 := D_K6.out.cell 0
      have cK61 := D_K6.out.cell 1
      have cK62 := D_K6.out.cell 2
      have cK63 := D_K6.out.cell 3
      have cK64 := D_K6.out.cell 4
      have cK65 := D_K6.out.cell 5
      have cK66 := D_K6.out.cell 6
      have cK67 := D_K6.out.cell 7
      have cK68 := D_K6.out.cell 8
      have fK60 := D_K6.out.frozen 0
      have fK61 := D_K6.out.frozen 1
      have fK62 := D_K6.out.frozen 2
      have fK63 := D_K6.out.frozen 3
      have fK64 := D_K6.out.frozen 4
      have fK65 := D_K6.out.frozen 5
      have fK66 := D_K6.out.frozen 6
      have fK67 := D_K6.out.frozen 7
      have fK68 := D_K6.out.frozen 8
      obtain ⟨w9, hw9⟩ : ∃ W, W = (((((((((w8.setCell ⟨K6, 0, none⟩ (.int .i64 3)).setCell ⟨K6, 1, none⟩ (.int .i64 2)).setCell ⟨K6, 2, none⟩ (.int .i64 1)).setCell ⟨K6, 3, none⟩ (.slice A1 2 c1)).setCell ⟨K6, 4, none⟩ (.slice none 0 0)).setCell ⟨K6, 5, none⟩ (.slice A3 3 c3)).setCell ⟨K6, 6, none⟩ (.slice Aw 4 cw)).setCell ⟨K6, 7, none⟩ (.int .i64 4)).setCell ⟨K6, 8, none⟩ (.bool true)) := ⟨_, rfl⟩
      have E_K3 : Hid (Blk w9 K3 87 [.int .i64 0, .int .i64 0, .int .i64 0, .slice none 0 0, .slice none 0 0, .slice none 0 0, .slice Aw 4 cw, .int .i64 0, .bool false]) := hid (by rw [hw9]; exact (((((((((D_K3.out).far (p := ⟨K6, 0, none⟩) NE_K3_K6.out _).far (p := ⟨K6, 1, none⟩) NE_K3_K6.out _).far (p := ⟨K6, 2, none⟩) NE_K3_K6.out _).far (p := ⟨K6, 3, none⟩) NE_K3_K6.out _).far (p := ⟨K6, 4, none⟩) NE_K3_K6.out _).far (p := ⟨K6, 5, none⟩) NE_K3_K6.out _).far (p := ⟨K6, 6, none⟩) NE_K3_K6.out _).far (p := ⟨K6, 7, none⟩) NE_K3_K6.out _).far (p := ⟨K6, 8, none⟩) NE_K3_K6.out _)
      have E_K6 : Hid (Blk w9 K6 87 [.int .i64 3, .int .i64 2, .int .i64 1, .slice A1 2 c1, .slice none 0 0, .slice A3 3 c3, .slice Aw 4 cw, .int .i64 4, .bool true]) := hid (by rw [hw9]; exact (((((((((D_K6.out).put 0 _).put 1 _).put 2 _).put 3 _).put 4 _).put 5 _).put 6 _).put 7 _).put 8 _)
      have E_K13 : Hid (Blk w9 K13 23 [.int .i64 3, .int .i64 2, .int .i64 1]) := hid (by rw [hw9]; exact (((((((((D_K13.out).far (p := ⟨K6, 0, none⟩) NE_K6_K13.out.symm _).far (p := ⟨K6, 1, none⟩) NE_K6_K13.out.symm _).far (p := ⟨K6, 2, none⟩) NE_K6_K13.out.symm _).far (p := ⟨K6, 3, none⟩) NE_K6_K13.out.symm _).far (p := ⟨K6, 4, none⟩) NE_K6_K13.out.symm _).far (p := ⟨K6, 5, none⟩) NE_K6_K13.out.symm _).far (p := ⟨K6, 6, none⟩) NE_K6_K13.out.symm _).far (p := ⟨K6, 7, none⟩) NE_K6_K13.out.symm _).far (p := ⟨K6, 8, none⟩) NE_K6_K13.out.symm _)
      have E_K15 : Hid (Blk w9 K15 85 [.int .i64 3, .int .i64 2, .int .i64 1, .slice A1 2 c1, .slice none 0 0, .slice A3 3 c3]) := hid (by rw [hw9]; exact (((((((((D_K15.out).far (p := ⟨K6, 0, none⟩) NE_K6_K15.out.symm _).far (p := ⟨K6, 1, none⟩) NE_K6_K15.out.symm _).far (p := ⟨K6, 2, none⟩) NE_K6_K15.out.symm _).far (p := ⟨K6, 3, none⟩) NE_K6_K15.out.symm _).far (p := ⟨K6, 4, none⟩) NE_K6_K15.out.symm _).far (p := ⟨K6, 5, none⟩) NE_K6_K15.out.symm _).far (p := ⟨K6, 6, none⟩) NE_K6_K15.out.symm _).far (p := ⟨K6, 7, none⟩) NE_K6_K15.out.symm _).far (p := ⟨K6, 8, none⟩) NE_K6_K15.out.symm _)
      have E_K16 : Hid (Blk w9 K16 82 [.slice Aw 4 cw, .int .i64 4]) := hid (by rw [hw9]; exact (((((((((D_K16.out).far (p := ⟨K6, 0, none⟩) NE_K6_K16.out.symm _).far (p := ⟨K6, 1, none⟩) NE_K6_K16.out.symm _).far (p := ⟨K6, 2, none⟩) NE_K6_K16.out.symm _).far (p := ⟨K6, 3, none⟩) NE_K6_K16.out.symm _).far (p := ⟨K6, 4, none⟩) NE_K6_K16.out.symm _).far (p := ⟨K6, 5, none⟩) NE_K6_K16.out.symm _).far (p := ⟨K6, 6, none⟩) NE_K6_K16.out.symm _).far (p := ⟨K6, 7, none⟩) NE_K6_K16.out.symm _).far (p := ⟨K6, 8, none⟩) NE_K6_K16.out.symm _)
      have EB : Hid (Below w.heap.size w w9) := hid (by rw [hw9]; exact (((((((((HB.out).setCell (p := ⟨K6, 0, none⟩) LO_K6.out _).setCell (p := ⟨K6, 1, none⟩) LO_K6.out _).setCell (p := ⟨K6, 2, none⟩) LO_K6.out _).setCell (p := ⟨K6, 3, none⟩) LO_K6.out _).setCell (p := ⟨K6, 4, none⟩) LO_K6.out _).setCell (p := ⟨K6, 5, none⟩) LO_K6.out _).setCell (p := ⟨K6, 6, none⟩) LO_K6.out _).setCell (p := ⟨K6, 7, none⟩) LO_K6.out _).setCell (p := ⟨K6, 8, none⟩) LO_K6.out _)
      have E_SN1 : Hid (Sl w9 w9.heap.size 2 (.slice A1 2 c1) 2 (hcs hsA)) := hid (by rw [hw9]; exact (((((((((SN1.out.off OG.out.1).off OG.out.1).off OG.out.1).off OG.out.1).off OG.out.1).off OG.out.1).off OG.out.1).off OG.out.1).off OG.out.1))
      have E_SN3 : Hid (Sl w9 w9.heap.size 2 (.slice A3 3 c3) 3 (sls sA0)) := hid (by rw [hw9]; exact (((((((((SN3.out.off OG.out.2).off OG.out.2).off OG.out.2).off OG.out.2).off OG.out.2).off OG.out.2).off OG.out.2).off OG.out.2).off OG.out.2))
      have HW_w9 := hid hw9
      clear hw9
      refine wpAnyH_ready (rs := [5]) (by kernel_rfl) (by simp) ?_
      refine AllReadyH.cons (o := _) rfl (fun K hK => ?_) ?_
      ·
       go_simp
       rw [← HW_w9.out]
       refine hK.out _ _ ?_ (fun hHeld => ?_)
       · exact ⟨E_K15.out.cell 0, E_K15.out.cell 1, E_K15.out.cell 2, E_K15.out.cell 3, E_K15.out.cell 4, E_K15.out.cell 5, E_K16.out.cell 0, E_K16.out.cell 1⟩
       clear hK K
       (try simp only [Act.put, putL])
       clear cK60 cK61 cK62 cK63 cK64 cK65 cK66 cK67 cK68 fK60 fK61 fK62 fK63 fK64 fK65 fK66 fK67 fK68
       clear HB D_K3 D_K6 D_K13 D_K15 D_K16 SN1 SN3
       have D_K3 := E_K3
       have D_K6 := E_K6
       have D_K13 := E_K13
       have D_K15 := E_K15
       have D_K16 := E_K16
       have HB := EB
       have SN1 := E_SN1
       have SN3 := E_SN3
       clear EB E_K3 E_K6 E_K13 E_K15 E_K16 E_SN1 E_SN3
       refine wpAnyH_take (i := 6) (oi := _) (v := ?_) rfl (by kernel_rfl) (by kernel_rfl) (by kernel_rfl) (fun _ _ _ h => h) (.inl ⟨by rfl, ?_⟩) (by assumption) ?_
       rotate_left
       · intro w hSw; obtain ⟨y0, y1, y2, y3, y4, y5, y6, y7⟩ := hSw; go_simp; try (with_reducible rfl)
       (try simp only [Act.put, putL])
       refine wpAnyH_done (by kernel_rfl) ?_ _
       have cK60 := D_K6.out.cell 0
       have cK61 := D_K6.out.cell 1
       have cK62 := D_K6.out.cell 2
       have cK63 := D_K6.out.cell 3
       have cK64 := D_K6.out.cell 4
       have cK65 := D_K6.out.cell 5
       have cK66 := D_K6.out.cell 6
       have cK67 := D_K6.out.cell 7
       have cK68 := D_K6.out.cell 8
       go_wp2
       exact bodyPost_ret (v := .tuple #[.agg #[.int .i64 3, .int .i64 2, .int .i64 1, .slice A1 2 c1, .slice none 0 0, .slice A3 3 c3, .slice Aw 4 cw, .int .i64 4, .bool true], .string ⟨#[111, 107]⟩]) (by simp [results, Tryz.results67, go_sem, cK60, cK61, cK62, cK63, cK64, cK65, cK66, cK67, cK68]) rfl ⟨A1, c1, A3, c3, rfl, ⟨SN1.out, Sl.none_ _ _ _, SN3.out⟩, OFN.out, HB.out⟩
      exact AllReadyH.nil
     exact AllReadyH.nil
end Go.Proofs.YtahodfikhocobaaGreatDoor
namespace Go.Proofs.YtahodfikhocobaaGreatDoor
open Go.RowKit
set_option linter.unusedVariables false
set_option linter.unusedSimpArgs false
attribute [local go_sem ↓] Go.wp_at_zero Go.wp_at_succ
variable {A1 A2 A3 Aw Al : Option Addr} {c1 c2 c3 cw cl : Nat} {w : World}
theorem numsL {ds : List Nat} (n : Nat) (hn : n = ds.length) (hd : ∀ d ∈ ds, IsDg d) (hl : ds.length ≤ 1000) {v : Value} {w : World} (hs : Sl w w.heap.size 1 v n (strs (ds.map dg))) : Calls Tryz.prog 66 #[v] w fun e w' => ∃ A c, e = .returned (.tuple #[.slice A n c, .int .i64 0]) ∧ Sl w' w'.heap.size 1 (.slice A n c) n (us ds) ∧ Below w.heap.size w w' := by
 subst hn
 refine (nums_ok hd hl hs).mono ?_
 rintro e w' ⟨v, he, hs', hb⟩
 obtain ⟨A, c, rfl, _⟩ := id hs'
 exact ⟨A, c, he, hs', hb⟩
theorem done_add4 (hm : SM w (.slice A1 2 c1) (.slice A2 0 c2) (.slice A3 3 c3) [] sA0) : Calls Tryz.prog 65 #[seN A1 c1 A2 0 c2 A3 c3 Aw cw, .agg #[.int .i64 1, .int .u64 4, .int .u64 0, .string ⟨#[]⟩]] w (LnAdd A1 A2 Aw c1 c2 cw sA1 w) := done_add (k := 4) (j := 0) hm rfl okA0 (by decide +kernel) (by decide +kernel) (by decide +kernel) (by decide +kernel)
theorem done_add6 (hm : SM w (.slice A1 2 c1) (.slice A2 0 c2) (.slice A3 3 c3) [] sA1) : Calls Tryz.prog 65 #[seN A1 c1 A2 0 c2 A3 c3 Aw cw, .agg #[.int .i64 1, .int .u64 6, .int .u64 0, .string ⟨#[]⟩]] w (LnAdd A1 A2 Aw c1 c2 cw sA2 w) := done_add (k := 6) (j := 1) hm rfl okA1 (by decide +kernel) (by decide +kernel) (by decide +kernel) (by decide +kernel)
theorem done_add8 (hm : SM w (.slice A1 2 c1) (.slice A2 0 c2) (.slice A3 3 c3) [] sA2) : Calls Tryz.prog 65 #[seN A1 c1 A2 0 c2 A3 c3 Aw cw, .agg #[.int .i64 1, .int .u64 8, .int .u64 0, .string ⟨#[]⟩]] w (LnAdd A1 A2 Aw c1 c2 cw sA3 w) := done_add (k := 8) (j := 2) hm rfl okA2 (by decide +kernel) (by decide +kernel) (by decide +kernel) (by decide +kernel)
set_option maxHeartbeats 16000000 in
set_option maxRecDepth 100000 in
theorem line_new (hw : Sl w w.heap.size 1 (.slice Aw 4 cw) 4 (us [7, 1, 9, 2])) (hl : Sl w w.heap.size 1 (.slice Al 4 cl) 4 (strs (⟨#[110, 101, 119]⟩ :: ([3, 2, 1] : List Nat).map dg))) : Calls Tryz.prog 39 #[.agg #[.int .i64 0, .int .i64 0, .int .i64 0, .slice none 0 0, .slice none 0 0, .slice none 0 0, .slice Aw 4 cw, .int .i64 0, .bool false], .slice Al 4 cl] w (LnNew Aw cw w) := by
 have SL := hid hl
 have SW := hid hw
 clear hl hw
 obtain ⟨w1, hw1⟩ : ∃ W, W = w.alloc (.cells #[.int .i64 0, .int .i64 0, .int .i64 0, .slice none 0 0, .slice none 0 0, .slice none 0 0, .slice Aw 4 cw, .int .i64 0, .bool false] 87) := ⟨_, rfl⟩
 obtain ⟨K2, hK2⟩ : ∃ K, K = w.heap.size := ⟨_, rfl⟩
 obtain ⟨w2, hw2⟩ : ∃ W, W = w1.alloc (.cells #[.int .i64 0, .int .i64 0, .int .i64 0, .slice none 0 0, .slice none 0 0, .slice none 0 0, .slice none 0 0, .int .i64 0, .bool false] 87) := ⟨_, rfl⟩
 obtain ⟨K4, hK4⟩ : ∃ K, K = K2 + 1 := ⟨_, rfl⟩
 have zw1 : w1.heap.size = K2 + 1 := by rw [hw1, hK2]; simp
 have zw2 : w2.heap.size = K2 + 2 := by rw [hw2]; simp; exact zw1
 have D_K2 : Hid (Blk w2 K2 87 [.int .i64 0, .int .i64 0, .int .i64 0, .slice none 0 0, .slice none 0 0, .slice none 0 0, .slice Aw 4 cw, .int .i64 0, .bool false]) := hid (by rw [hK2]; rw [hw2, hw1]; exact (Blk.new _ _ _).alloc _)
 have LO_K2 : Hid (w.heap.size ≤ K2) := hid (by omega)
 have D_K4 : Hid (Blk w2 K4 87 [.int .i64 0, .int .i64 0, .int .i64 0, .slice none 0 0, .slice none 0 0, .slice none 0 0, .slice none 0 0, .int .i64 0, .bool false]) := hid (by rw [show K4 = w1.heap.size by omega]; rw [hw2]; exact Blk.new _ _ _)
 have LO_K4 : Hid (w.heap.size ≤ K4) := hid (by omega)
 have NE_K2_K4 : Hid (K2 ≠ K4) := hid (by omega)
 have HB : Hid (Below w.heap.size w w2) := hid (by rw [hw2, hw1]; exact Bl.new (bel_new _ _) _)
 replace SL := hid (SL.out.call HB.out)
 replace SW := hid (SW.out.call HB.out)
 have HW_w1 := hid hw1
 have HK_K2 := hid hK2
 have HW_w2 := hid hw2
 have HK_K4 := hid hK4
 clear hw1 hw2 hK2 hK4 zw1 zw2
 go_enter Tryz.func39, Tryz.ntmps39
 go_upto_region 1 with (fail)
 rw [← HW_w1.out, ← HK_K2.out, ← HK_K4.out, ← HW_w2.out]
 obtain ⟨_, _, he, hnc, _, _, hx⟩ := id SL.out
 injection he with e1 e2 e3
 subst e1 e3
 obtain ⟨b, o, rfl, hb, hc⟩ := hx (by omega)
 have x0 : w2.cell? ⟨b, o, none⟩ = some (.string ⟨#[110, 101, 119]⟩) := hc 0 _ rfl
 clear hx hc hb
 have hdr : ∀ W, (Instr.slice 92 (.slice (some ⟨b, o, none⟩) 4 cl) (some (.int .i64 1)) none none).run Tryz.prog W = .ok (.slice (cutA (some ⟨b, o, none⟩) cl 1 1) 3 (cl - 1)) W := fun W => run_drop_of Tstrs (some ⟨b, o, none⟩) 4 cl 1 (by omega) W
 have SD : Hid (Sl w2 w2.heap.size 1 (.slice (cutA (some ⟨b, o, none⟩) cl 1 1) 3 (cl - 1)) 3 (strs (([3, 2, 1] : List Nat).map dg))) := hid (Sl.drop (k := 1) SL.out (by omega))
 clear SL
 go_wp2_with fail
 refine (cmd_new _).mono ?_; rintro e _ ⟨rfl, rfl⟩
 go_upto_region 11 with (fail)
 generalize cutA (some ⟨b, o, none⟩) cl 1 1 = AD at SD hdr
 generalize cl - 1 = cd at SD hdr
 go_wp2_with fail
 have HBk := hid HB.out.size
 refine (numsL (ds := [3, 2, 1]) 3 rfl (by intro d hd; simp at hd; unfold IsDg; omega) (by simp) SD.out).mono ?_; rintro e w3 ⟨Ag, cg, rfl, SG_, b_⟩
 clear x0
 replace D_K2 := hid (D_K2.out.on b_)
 replace D_K4 := hid (D_K4.out.on b_)
 replace SD := hid (SD.out.call b_)
 replace SW := hid (SW.out.call b_)
 replace HB := hid (Bl.call HB.out b_)
 have SG := hid SG_
 clear SG_
 clear b_
 clear SD hdr hnc
 go_upto_region 15 with (fail)
 have cK20 := D_K2.out.cell 0
 have cK21 := D_K2.out.cell 1
 have cK22 := D_K2.out.cell 2
 have cK23 := D_K2.out.cell 3
 have cK24 := D_K2.out.cell 4
 have cK25 := D_K2.out.cell 5
 have cK26 := D_K2.out.cell 6
 have cK27 := D_K2.out.cell 7
 have cK28 := D_K2.out.cell 8
 have L4 : Hid (K4 < w3.heap.size) := hid D_K4.out.lt
 go_wp2_with fail
 replace HBk := hid HB.out.size
 refine (begun_ok SG.out SW.out).mono ?_; rintro e w4 ⟨A1, c1, A3, c3, rfl, SN_, oN, b_⟩
 clear cK20 cK21 cK22 cK23 cK24 cK25 cK26 cK27 cK28
 replace D_K2 := hid (D_K2.out.on b_)
 replace D_K4 := hid (D_K4.out.on b_)
 replace SW := hid (SW.out.call b_)
 replace SG := hid (SG.out.call b_)
 replace HB := hid (Bl.call HB.out b_)
 have SN := hid SN_
 clear SN_
 clear b_
 have OFN : Hid (∀ K, K < w.heap.size → Off K (.slice A1 2 c1) ∧ Off K (.slice A3 3 c3)) := hid (fun K hK => oN K (by have := HBk.out; omega))
 have OG : Hid (Off K4 (.slice A1 2 c1) ∧ Off K4 (.slice A3 3 c3)) := hid (oN K4 L4.out)
 clear oN L4
 have SN1 := hid SN.out.sh
 have SN3 := hid SN.out.ss
 clear SN SG SW
 have cK40 := D_K4.out.cell 0
 have cK41 := D_K4.out.cell 1
 have cK42 := D_K4.out.cell 2
 have cK43 := D_K4.out.cell 3
 have cK44 := D_K4.out.cell 4
 have cK45 := D_K4.out.cell 5
 have cK46 := D_K4.out.cell 6
 have cK47 := D_K4.out.cell 7
 have cK48 := D_K4.out.cell 8
 have fK40 := D_K4.out.frozen 0
 have fK41 := D_K4.out.frozen 1
 have fK42 := D_K4.out.frozen 2
 have fK43 := D_K4.out.frozen 3
 have fK44 := D_K4.out.frozen 4
 have fK45 := D_K4.out.frozen 5
 have fK46 := D_K4.out.frozen 6
 have fK47 := D_K4.out.frozen 7
 have fK48 := D_K4.out.frozen 8
 obtain ⟨w5, hw5⟩ : ∃ W, W = (((((((((w4.setCell ⟨K4, 0, none⟩ (.int .i64 3)).setCell ⟨K4, 1, none⟩ (.int .i64 2)).setCell ⟨K4, 2, none⟩ (.int .i64 1)).setCell ⟨K4, 3, none⟩ (.slice A1 2 c1)).setCell ⟨K4, 4, none⟩ (.slice none 0 0)).setCell ⟨K4, 5, none⟩ (.slice A3 3 c3)).setCell ⟨K4, 6, none⟩ (.slice Aw 4 cw)).setCell ⟨K4, 7, none⟩ (.int .i64 4)).setCell ⟨K4, 8, none⟩ (.bool true)) := ⟨_, rfl⟩
 have E_K2 : Hid (Blk w5 K2 87 [.int .i64 0, .int .i64 0, .int .i64 0, .slice none 0 0, .slice none 0 0, .slice none 0 0, .slice Aw 4 cw, .int .i64 0, .bool false]) := hid (by rw [hw5]; exact (((((((((D_K2.out).far (p := ⟨K4, 0, none⟩) NE_K2_K4.out _).far (p := ⟨K4, 1, none⟩) NE_K2_K4.out _).far (p := ⟨K4, 2, none⟩) NE_K2_K4.out _).far (p := ⟨K4, 3, none⟩) NE_K2_K4.out _).far (p := ⟨K4, 4, none⟩) NE_K2_K4.out _).far (p := ⟨K4, 5, none⟩) NE_K2_K4.out _).far (p := ⟨K4, 6, none⟩) NE_K2_K4.out _).far (p := ⟨K4, 7, none⟩) NE_K2_K4.out _).far (p := ⟨K4, 8, none⟩) NE_K2_K4.out _)
 have E_K4 : Hid (Blk w5 K4 87 [.int .i64 3, .int .i64 2, .int .i64 1, .slice A1 2 c1, .slice none 0 0, .slice A3 3 c3, .slice Aw 4 cw, .int .i64 4, .bool true]) := hid (by rw [hw5]; exact (((((((((D_K4.out).put 0 _).put 1 _).put 2 _).put 3 _).put 4 _).put 5 _).put 6 _).put 7 _).put 8 _)
 have EB : Hid (Below w.heap.size w w5) := hid (by rw [hw5]; exact (((((((((HB.out).setCell (p := ⟨K4, 0, none⟩) LO_K4.out _).setCell (p := ⟨K4, 1, none⟩) LO_K4.out _).setCell (p := ⟨K4, 2, none⟩) LO_K4.out _).setCell (p := ⟨K4, 3, none⟩) LO_K4.out _).setCell (p := ⟨K4, 4, none⟩) LO_K4.out _).setCell (p := ⟨K4, 5, none⟩) LO_K4.out _).setCell (p := ⟨K4, 6, none⟩) LO_K4.out _).setCell (p := ⟨K4, 7, none⟩) LO_K4.out _).setCell (p := ⟨K4, 8, none⟩) LO_K4.out _)
 have E_SN1 : Hid (Sl w5 w5.heap.size 2 (.slice A1 2 c1) 2 (hcs hsA)) := hid (by rw [hw5]; exact (((((((((SN1.out.off OG.out.1).off OG.out.1).off OG.out.1).off OG.out.1).off OG.out.1).off OG.out.1).off OG.out.1).off OG.out.1).off OG.out.1))
 have E_SN3 : Hid (Sl w5 w5.heap.size 2 (.slice A3 3 c3) 3 (sls sA0)) := hid (by rw [hw5]; exact (((((((((SN3.out.off OG.out.2).off OG.out.2).off OG.out.2).off OG.out.2).off OG.out.2).off OG.out.2).off OG.out.2).off OG.out.2).off OG.out.2))
 have HW_w5 := hid hw5
 clear hw5
 go_wp2
 rw [← HW_w5.out]
 clear cK40 cK41 cK42 cK43 cK44 cK45 cK46 cK47 cK48 fK40 fK41 fK42 fK43 fK44 fK45 fK46 fK47 fK48
 clear HB D_K2 D_K4 SN1 SN3
 have D_K2 := E_K2
 have D_K4 := E_K4
 have HB := EB
 have SN1 := E_SN1
 have SN3 := E_SN3
 clear EB E_K2 E_K4 E_SN1 E_SN3
 have cK40 := D_K4.out.cell 0
 have cK41 := D_K4.out.cell 1
 have cK42 := D_K4.out.cell 2
 have cK43 := D_K4.out.cell 3
 have cK44 := D_K4.out.cell 4
 have cK45 := D_K4.out.cell 5
 have cK46 := D_K4.out.cell 6
 have cK47 := D_K4.out.cell 7
 have cK48 := D_K4.out.cell 8
 exact bodyPost_ret (v := .tuple #[.agg #[.int .i64 3, .int .i64 2, .int .i64 1, .slice A1 2 c1, .slice none 0 0, .slice A3 3 c3, .slice Aw 4 cw, .int .i64 4, .bool true], .string ⟨#[111, 107]⟩]) (by simp [results, Tryz.results39, go_sem, cK40, cK41, cK42, cK43, cK44, cK45, cK46, cK47, cK48]) rfl ⟨A1, c1, A3, c3, rfl, ⟨SN1.out, Sl.none_ _ _ _, SN3.out⟩, OFN.out, HB.out⟩
set_option maxHeartbeats 16000000 in
set_option maxRecDepth 100000 in
theorem line_vertex {k : Nat} {sa sb : List (Bool × Int)} (hk : IsDg k) (hd : ∀ W : World, SM W (.slice A1 2 c1) (.slice A2 0 c2) (.slice A3 3 c3) [] sa → Calls Tryz.prog 65 #[seN A1 c1 A2 0 c2 A3 c3 Aw cw, .agg #[.int .i64 1, .int .u64 (k : Int), .int .u64 0, .string ⟨#[]⟩]] W (LnAdd A1 A2 Aw c1 c2 cw sb W)) (hm : SM w (.slice A1 2 c1) (.slice A2 0 c2) (.slice A3 3 c3) [] sa) (hl : Sl w w.heap.size 1 (.slice Al 2 cl) 2 (strs (⟨#[118, 101, 114, 116, 101, 120]⟩ :: ([k] : List Nat).map dg))) : Calls Tryz.prog 39 #[.agg #[.int .i64 3, .int .i64 2, .int .i64 1, .slice A1 2 c1, .slice A2 0 c2, .slice A3 3 c3, .slice Aw 4 cw, .int .i64 4, .bool true], .slice Al 2 cl] w (LnAdd A1 A2 Aw c1 c2 cw sb w) := by
 have SL := hid hl
 have HM := hid hm
 have SM_ := hid hm
 clear hl hm
 have HK := hid hk
 have HD := hid hd
 clear hk hd
 obtain ⟨w1, hw1⟩ : ∃ W, W = w.alloc (.cells #[.int .i64 3, .int .i64 2, .int .i64 1, .slice A1 2 c1, .slice A2 0 c2, .slice A3 3 c3, .slice Aw 4 cw, .int .i64 4, .bool true] 87) := ⟨_, rfl⟩
 obtain ⟨K2, hK2⟩ : ∃ K, K = w.heap.size := ⟨_, rfl⟩
 obtain ⟨w2, hw2⟩ : ∃ W, W = w1.alloc (.cells #[.int .i64 0, .int .i64 0, .int .i64 0, .slice none 0 0, .slice none 0 0, .slice none 0 0, .slice none 0 0, .int .i64 0, .bool false] 87) := ⟨_, rfl⟩
 obtain ⟨K4, hK4⟩ : ∃ K, K = K2 + 1 := ⟨_, rfl⟩
 have zw1 : w1.heap.size = K2 + 1 := by rw [hw1, hK2]; simp
 have zw2 : w2.heap.size = K2 + 2 := by rw [hw2]; simp; exact zw1
 have D_K2 : Hid (Blk w2 K2 87 [.int .i64 3, .int .i64 2, .int .i64 1, .slice A1 2 c1, .slice A2 0 c2, .slice A3 3 c3, .slice Aw 4 cw, .int .i64 4, .bool true]) := hid (by rw [hK2]; rw [hw2, hw1]; exact (Blk.new _ _ _).alloc _)
 have LO_K2 : Hid (w.heap.size ≤ K2) := hid (by omega)
 have D_K4 : Hid (Blk w2 K4 87 [.int .i64 0, .int .i64 0, .int .i64 0, .slice none 0 0, .slice none 0 0, .slice none 0 0, .slice none 0 0, .int .i64 0, .bool false]) := hid (by rw [show K4 = w1.heap.size by omega]; rw [hw2]; exact Blk.new _ _ _)
 have LO_K4 : Hid (w.heap.size ≤ K4) := hid (by omega)
 have NE_K2_K4 : Hid (K2 ≠ K4) := hid (by omega)
 have HB : Hid (Below w.heap.size w w2) := hid (by rw [hw2, hw1]; exact Bl.new (bel_new _ _) _)
 replace SL := hid (SL.out.call HB.out)
 replace SM_ := hid (SM_.out.call HB.out)
 have HW_w1 := hid hw1
 have HK_K2 := hid hK2
 have HW_w2 := hid hw2
 have HK_K4 := hid hK4
 clear hw1 hw2 hK2 hK4 zw1 zw2
 go_enter Tryz.func39, Tryz.ntmps39
 go_upto_region 1 with (fail)
 rw [← HW_w1.out, ← HK_K2.out, ← HK_K4.out, ← HW_w2.out]
 obtain ⟨_, _, he, hnc, _, _, hx⟩ := id SL.out
 injection he with e1 e2 e3
 subst e1 e3
 obtain ⟨b, o, rfl, hb, hc⟩ := hx (by omega)
 have x0 : w2.cell? ⟨b, o, none⟩ = some (.string ⟨#[118, 101, 114, 116, 101, 120]⟩) := hc 0 _ rfl
 clear hx hc hb
 have hdr : ∀ W, (Instr.slice 92 (.slice (some ⟨b, o, none⟩) 2 cl) (some (.int .i64 1)) none none).run Tryz.prog W = .ok (.slice (cutA (some ⟨b, o, none⟩) cl 1 1) 1 (cl - 1)) W := fun W => run_drop_of Tstrs (some ⟨b, o, none⟩) 2 cl 1 (by omega) W
 have SD : Hid (Sl w2 w2.heap.size 1 (.slice (cutA (some ⟨b, o, none⟩) cl 1 1) 1 (cl - 1)) 1 (strs (([k] : List Nat).map dg))) := hid (Sl.drop (k := 1) SL.out (by omega))
 clear SL
 go_wp2_with fail
 refine (cmd_vertex _).mono ?_; rintro e _ ⟨rfl, rfl⟩
 go_upto_region 11 with (fail)
 generalize cutA (some ⟨b, o, none⟩) cl 1 1 = AD at SD hdr
 generalize cl - 1 = cd at SD hdr
 go_wp2_with fail
 have HBk := hid HB.out.size
 refine (numsL (ds := [k]) 1 rfl (by intro d hd; simp at hd; rw [hd]; exact HK.out) (by simp) SD.out).mono ?_; rintro e w3 ⟨Ag, cg, rfl, SG_, b_⟩
 clear x0
 replace D_K2 := hid (D_K2.out.on b_)
 replace D_K4 := hid (D_K4.out.on b_)
 replace SD := hid (SD.out.call b_)
 replace SM_ := hid (SM_.out.call b_)
 replace HB := hid (Bl.call HB.out b_)
 have SG := hid SG_
 clear SG_
 clear b_
 clear SD hdr hnc
 go_upto_region 16 with (fail)
 obtain ⟨_, _, he, _, _, _, hx⟩ := id SG.out
 injection he with e1 e2 e3
 subst e1 e3
 obtain ⟨bg, og, rfl, hbg, hcg⟩ := hx (by omega)
 have X0 : Hid (w3.cell? ⟨bg, og, none⟩ = some (.int .u64 (k : Int))) := hid (hcg 0 _ rfl)
 have HBG : Hid (bg < w3.heap.size) := hid hbg
 clear hx hcg hbg
 clear SG
 go_upto_region 17 with (fail)
 obtain ⟨w4, hw4⟩ : ∃ W, W = w3.alloc (.cells #[.int .i64 1, .int .u64 0, .int .u64 0, .string ⟨#[]⟩] 124) := ⟨_, rfl⟩
 obtain ⟨K12, hK12⟩ : ∃ K, K = w3.heap.size := ⟨_, rfl⟩
 have b_ := bel_new w3 (.cells #[.int .i64 1, .int .u64 0, .int .u64 0, .string ⟨#[]⟩] 124)
 rw [← hw4] at b_
 have D_K12 : Hid (Blk w4 K12 124 [.int .i64 1, .int .u64 0, .int .u64 0, .string ⟨#[]⟩]) := hid (by rw [hw4, hK12]; exact Blk.new _ _ _)
 have LO_K12 : Hid (w.heap.size ≤ K12) := hid (by rw [hK12]; exact HB.out.size)
 have NE_K2_K12 : Hid (K2 ≠ K12) := hid (by have := D_K2.out.lt; rw [hK12]; omega)
 have NE_K4_K12 : Hid (K4 ≠ K12) := hid (by have := D_K4.out.lt; rw [hK12]; omega)
 replace D_K2 := hid (D_K2.out.on b_)
 replace D_K4 := hid (D_K4.out.on b_)
 replace SM_ := hid (SM_.out.call b_)
 replace HB := hid (Bl.call HB.out b_)
 rw [← hw4, ← hK12]
 have HW_w4 := hid hw4
 have HK_K12 := hid hK12
 clear b_ hw4 hK12
 have NBG : Hid (bg ≠ K12) := hid (by have := HK_K12.out; have := HBG.out; omega)
 replace X0 : Hid (w4.cell? ⟨bg, og, none⟩ = some (.int .u64 (k : Int))) := hid (by rw [HW_w4.out]; exact cell_later (bel_new _ _) X0.out)
 have x := X0.out
 have cK120 := D_K12.out.cell 0
 have cK121 := D_K12.out.cell 1
 have cK122 := D_K12.out.cell 2
 have cK123 := D_K12.out.cell 3
 have fK120 := D_K12.out.frozen 0
 have fK121 := D_K12.out.frozen 1
 have fK122 := D_K12.out.frozen 2
 have fK123 := D_K12.out.frozen 3
 obtain ⟨w5, hw5⟩ : ∃ W, W = (w4.setCell ⟨K12, 1, none⟩ (.int .u64 (k : Int))) := ⟨_, rfl⟩
 have E_K2 : Hid (Blk w5 K2 87 [.int .i64 3, .int .i64 2, .int .i64 1, .slice A1 2 c1, .slice A2 0 c2, .slice A3 3 c3, .slice Aw 4 cw, .int .i64 4, .bool true]) := hid (by rw [hw5]; exact (D_K2.out).far (p := ⟨K12, 1, none⟩) NE_K2_K12.out _)
 have E_K4 : Hid (Blk w5 K4 87 [.int .i64 0, .int .i64 0, .int .i64 0, .slice none 0 0, .slice none 0 0, .slice none 0 0, .slice none 0 0, .int .i64 0, .bool false]) := hid (by rw [hw5]; exact (D_K4.out).far (p := ⟨K12, 1, none⟩) NE_K4_K12.out _)
 have E_K12 : Hid (Blk w5 K12 124 [.int .i64 1, .int .u64 (k : Int), .int .u64 0, .string ⟨#[]⟩]) := hid (by rw [hw5]; exact (D_K12.out).put 1 _)
 have EB : Hid (Below w.heap.size w w5) := hid (by rw [hw5]; exact (HB.out).setCell (p := ⟨K12, 1, none⟩) LO_K12.out _)
 have E_SM_ : Hid (SM w5 (.slice A1 2 c1) (.slice A2 0 c2) (.slice A3 3 c3) [] sa) := hid (by rw [hw5]; exact HM.out.call (HB.out.setCell (p := ⟨K12, _, none⟩) LO_K12.out _))
 have HW_w5 := hid hw5
 clear hw5
 go_upto_region 19 with (fail)
 rw [← HW_w5.out]
 clear x cK120 cK121 cK122 cK123 fK120 fK121 fK122 fK123
 clear HB D_K2 D_K4 D_K12 SM_
 have D_K2 := E_K2
 have D_K4 := E_K4
 have D_K12 := E_K12
 have HB := EB
 have SM_ := E_SM_
 clear EB E_K2 E_K4 E_K12 E_SM_
 go_upto_region 21 with (fail)
 have cK20 := D_K2.out.cell 0
 have cK21 := D_K2.out.cell 1
 have cK22 := D_K2.out.cell 2
 have cK23 := D_K2.out.cell 3
 have cK24 := D_K2.out.cell 4
 have cK25 := D_K2.out.cell 5
 have cK26 := D_K2.out.cell 6
 have cK27 := D_K2.out.cell 7
 have cK28 := D_K2.out.cell 8
 have cK120 := D_K12.out.cell 0
 have cK121 := D_K12.out.cell 1
 have cK122 := D_K12.out.cell 2
 have cK123 := D_K12.out.cell 3
 have L4 : Hid (K4 < w5.heap.size) := hid D_K4.out.lt
 go_wp2_with fail
 replace HBk := hid HB.out.size
 refine (HD.out _ SM_.out).mono ?_; rintro e w6 ⟨AN, cN, rfl, SN_, oN, b_⟩
 clear cK20 cK21 cK22 cK23 cK24 cK25 cK26 cK27 cK28 cK120 cK121 cK122 cK123
 replace D_K2 := hid (D_K2.out.on b_)
 replace D_K4 := hid (D_K4.out.on b_)
 replace D_K12 := hid (D_K12.out.on b_)
 replace SM_ := hid (SM_.out.call b_)
 replace HB := hid (Bl.call HB.out b_)
 have SN := hid SN_
 clear SN_
 clear b_
 have OFN : Hid (∀ K, K < w.heap.size → Off K (.slice AN 3 cN)) := hid (fun K hK => oN K (by have := HBk.out; omega))
 have OG : Hid (Off K4 (.slice AN 3 cN)) := hid (oN K4 L4.out)
 clear oN L4
 have SN3 := hid SN.out.ss
 clear SN SM_
 have cK40 := D_K4.out.cell 0
 have cK41 := D_K4.out.cell 1
 have cK42 := D_K4.out.cell 2
 have cK43 := D_K4.out.cell 3
 have cK44 := D_K4.out.cell 4
 have cK45 := D_K4.out.cell 5
 have cK46 := D_K4.out.cell 6
 have cK47 := D_K4.out.cell 7
 have cK48 := D_K4.out.cell 8
 have fK40 := D_K4.out.frozen 0
 have fK41 := D_K4.out.frozen 1
 have fK42 := D_K4.out.frozen 2
 have fK43 := D_K4.out.frozen 3
 have fK44 := D_K4.out.frozen 4
 have fK45 := D_K4.out.frozen 5
 have fK46 := D_K4.out.frozen 6
 have fK47 := D_K4.out.frozen 7
 have fK48 := D_K4.out.frozen 8
 obtain ⟨w7, hw7⟩ : ∃ W, W = (((((((((w6.setCell ⟨K4, 0, none⟩ (.int .i64 3)).setCell ⟨K4, 1, none⟩ (.int .i64 2)).setCell ⟨K4, 2, none⟩ (.int .i64 1)).setCell ⟨K4, 3, none⟩ (.slice A1 2 c1)).setCell ⟨K4, 4, none⟩ (.slice A2 0 c2)).setCell ⟨K4, 5, none⟩ (.slice AN 3 cN)).setCell ⟨K4, 6, none⟩ (.slice Aw 4 cw)).setCell ⟨K4, 7, none⟩ (.int .i64 4)).setCell ⟨K4, 8, none⟩ (.bool true)) := ⟨_, rfl⟩
 have E_K2 : Hid (Blk w7 K2 87 [.int .i64 3, .int .i64 2, .int .i64 1, .slice A1 2 c1, .slice A2 0 c2, .slice A3 3 c3, .slice Aw 4 cw, .int .i64 4, .bool true]) := hid (by rw [hw7]; exact (((((((((D_K2.out).far (p := ⟨K4, 0, none⟩) NE_K2_K4.out _).far (p := ⟨K4, 1, none⟩) NE_K2_K4.out _).far (p := ⟨K4, 2, none⟩) NE_K2_K4.out _).far (p := ⟨K4, 3, none⟩) NE_K2_K4.out _).far (p := ⟨K4, 4, none⟩) NE_K2_K4.out _).far (p := ⟨K4, 5, none⟩) NE_K2_K4.out _).far (p := ⟨K4, 6, none⟩) NE_K2_K4.out _).far (p := ⟨K4, 7, none⟩) NE_K2_K4.out _).far (p := ⟨K4, 8, none⟩) NE_K2_K4.out _)
 have E_K4 : Hid (Blk w7 K4 87 [.int .i64 3, .int .i64 2, .int .i64 1, .slice A1 2 c1, .slice A2 0 c2, .slice AN 3 cN, .slice Aw 4 cw, .int .i64 4, .bool true]) := hid (by rw [hw7]; exact (((((((((D_K4.out).put 0 _).put 1 _).put 2 _).put 3 _).put 4 _).put 5 _).put 6 _).put 7 _).put 8 _)
 have E_K12 : Hid (Blk w7 K12 124 [.int .i64 1, .int .u64 (k : Int), .int .u64 0, .string ⟨#[]⟩]) := hid (by rw [hw7]; exact (((((((((D_K12.out).far (p := ⟨K4, 0, none⟩) NE_K4_K12.out.symm _).far (p := ⟨K4, 1, none⟩) NE_K4_K12.out.symm _).far (p := ⟨K4, 2, none⟩) NE_K4_K12.out.symm _).far (p := ⟨K4, 3, none⟩) NE_K4_K12.out.symm _).far (p := ⟨K4, 4, none⟩) NE_K4_K12.out.symm _).far (p := ⟨K4, 5, none⟩) NE_K4_K12.out.symm _).far (p := ⟨K4, 6, none⟩) NE_K4_K12.out.symm _).far (p := ⟨K4, 7, none⟩) NE_K4_K12.out.symm _).far (p := ⟨K4, 8, none⟩) NE_K4_K12.out.symm _)
 have EB : Hid (Below w.heap.size w w7) := hid (by rw [hw7]; exact (((((((((HB.out).setCell (p := ⟨K4, 0, none⟩) LO_K4.out _).setCell (p := ⟨K4, 1, none⟩) LO_K4.out _).setCell (p := ⟨K4, 2, none⟩) LO_K4.out _).setCell (p := ⟨K4, 3, none⟩) LO_K4.out _).setCell (p := ⟨K4, 4, none⟩) LO_K4.out _).setCell (p := ⟨K4, 5, none⟩) LO_K4.out _).setCell (p := ⟨K4, 6, none⟩) LO_K4.out _).setCell (p := ⟨K4, 7, none⟩) LO_K4.out _).setCell (p := ⟨K4, 8, none⟩) LO_K4.out _)
 have E_SN3 : Hid (Sl w7 w7.heap.size 2 (.slice AN 3 cN) 3 (sls sb)) := hid (by rw [hw7]; exact (((((((((SN3.out.off OG.out).off OG.out).off OG.out).off OG.out).off OG.out).off OG.out).off OG.out).off OG.out).off OG.out))
 have HW_w7 := hid hw7
 clear hw7
 go_wp2
 rw [← HW_w7.out]
 clear cK40 cK41 cK42 cK43 cK44 cK45 cK46 cK47 cK48 fK40 fK41 fK42 fK43 fK44 fK45 fK46 fK47 fK48
 clear HB D_K2 D_K4 D_K12 SN3
 have D_K2 := E_K2
 have D_K4 := E_K4
 have D_K12 := E_K12
 have HB := EB
 have SN3 := E_SN3
 clear EB E_K2 E_K4 E_K12 E_SN3
 have cK40 := D_K4.out.cell 0
 have cK41 := D_K4.out.cell 1
 have cK42 := D_K4.out.cell 2
 have cK43 := D_K4.out.cell 3
 have cK44 := D_K4.out.cell 4
 have cK45 := D_K4.out.cell 5
 have cK46 := D_K4.out.cell 6
 have cK47 := D_K4.out.cell 7
 have cK48 := D_K4.out.cell 8
 exact bodyPost_ret (v := .tuple #[.agg #[.int .i64 3, .int .i64 2, .int .i64 1, .slice A1 2 c1, .slice A2 0 c2, .slice AN 3 cN, .slice Aw 4 cw, .int .i64 4, .bool true], .string ⟨#[111, 107]⟩]) (by simp [results, Tryz.results39, go_sem, cK40, cK41, cK42, cK43, cK44, cK45, cK46, cK47, cK48]) rfl ⟨_, _, rfl, ⟨HM.out.sh.call HB.out, HM.out.se.call HB.out, SN3.out⟩, OFN.out, HB.out⟩
set_option maxHeartbeats 16000000 in
set_option maxRecDepth 100000 in
theorem line_v4 (hm : SM w (.slice A1 2 c1) (.slice A2 0 c2) (.slice A3 3 c3) [] sA0) (hl : Sl w w.heap.size 1 (.slice Al 2 cl) 2 (strs (⟨#[118, 101, 114, 116, 101, 120]⟩ :: ([4] : List Nat).map dg))) : Calls Tryz.prog 39 #[.agg #[.int .i64 3, .int .i64 2, .int .i64 1, .slice A1 2 c1, .slice A2 0 c2, .slice A3 3 c3, .slice Aw 4 cw, .int .i64 4, .bool true], .slice Al 2 cl] w (LnAdd A1 A2 Aw c1 c2 cw sA1 w) := by
 exact line_vertex (k := 4) (by unfold IsDg; omega) (fun _ h => done_add4 h) hm hl
set_option maxHeartbeats 16000000 in
set_option maxRecDepth 100000 in
theorem line_v6 (hm : SM w (.slice A1 2 c1) (.slice A2 0 c2) (.slice A3 3 c3) [] sA1) (hl : Sl w w.heap.size 1 (.slice Al 2 cl) 2 (strs (⟨#[118, 101, 114, 116, 101, 120]⟩ :: ([6] : List Nat).map dg))) : Calls Tryz.prog 39 #[.agg #[.int .i64 3, .int .i64 2, .int .i64 1, .slice A1 2 c1, .slice A2 0 c2, .slice A3 3 c3, .slice Aw 4 cw, .int .i64 4, .bool true], .slice Al 2 cl] w (LnAdd A1 A2 Aw c1 c2 cw sA2 w) := by
 exact line_vertex (k := 6) (by unfold IsDg; omega) (fun _ h => done_add6 h) hm hl
set_option maxHeartbeats 16000000 in
set_option maxRecDepth 100000 in
theorem line_v8 (hm : SM w (.slice A1 2 c1) (.slice A2 0 c2) (.slice A3 3 c3) [] sA2) (hl : Sl w w.heap.size 1 (.slice Al 2 cl) 2 (strs (⟨#[118, 101, 114, 116, 101, 120]⟩ :: ([8] : List Nat).map dg))) : Calls Tryz.prog 39 #[.agg #[.int .i64 3, .int .i64 2, .int .i64 1, .slice A1 2 c1, .slice A2 0 c2, .slice A3 3 c3, .slice Aw 4 cw, .int .i64 4, .bool true], .slice Al 2 cl] w (LnAdd A1 A2 Aw c1 c2 cw sA3 w) := by
 exact line_vertex (k := 8) (by unfold IsDg; omega) (fun _ h => done_add8 h) hm hl
set_option maxHeartbeats 16000000 in
set_option maxRecDepth 100000 in
theorem line_edge (hm : SM w (.slice A1 2 c1) (.slice A2 0 c2) (.slice A3 3 c3) [] sA3) (hl : Sl w w.heap.size 1 (.slice Al 3 cl) 3 (strs (⟨#[101, 100, 103, 101]⟩ :: ([6, 4] : List Nat).map dg))) : Calls Tryz.prog 39 #[.agg #[.int .i64 3, .int .i64 2, .int .i64 1, .slice A1 2 c1, .slice A2 0 c2, .slice A3 3 c3, .slice Aw 4 cw, .int .i64 4, .bool true], .slice Al 3 cl] w (LnIns A1 A3 Aw c1 c3 cw w) := by
 have SL := hid hl
 have HM := hid hm
 have SM_ := hid hm
 clear hl hm
 obtain ⟨w1, hw1⟩ : ∃ W, W = w.alloc (.cells #[.int .i64 3, .int .i64 2, .int .i64 1, .slice A1 2 c1, .slice A2 0 c2, .slice A3 3 c3, .slice Aw 4 cw, .int .i64 4, .bool true] 87) := ⟨_, rfl⟩
 obtain ⟨K2, hK2⟩ : ∃ K, K = w.heap.size := ⟨_, rfl⟩
 obtain ⟨w2, hw2⟩ : ∃ W, W = w1.alloc (.cells #[.int .i64 0, .int .i64 0, .int .i64 0, .slice none 0 0, .slice none 0 0, .slice none 0 0, .slice none 0 0, .int .i64 0, .bool false] 87) := ⟨_, rfl⟩
 obtain ⟨K4, hK4⟩ : ∃ K, K = K2 + 1 := ⟨_, rfl⟩
 have zw1 : w1.heap.size = K2 + 1 := by rw [hw1, hK2]; simp
 have zw2 : w2.heap.size = K2 + 2 := by rw [hw2]; simp; exact zw1
 have D_K2 : Hid (Blk w2 K2 87 [.int .i64 3, .int .i64 2, .int .i64 1, .slice A1 2 c1, .slice A2 0 c2, .slice A3 3 c3, .slice Aw 4 cw, .int .i64 4, .bool true]) := hid (by rw [hK2]; rw [hw2, hw1]; exact (Blk.new _ _ _).alloc _)
 have LO_K2 : Hid (w.heap.size ≤ K2) := hid (by omega)
 have D_K4 : Hid (Blk w2 K4 87 [.int .i64 0, .int .i64 0, .int .i64 0, .slice none 0 0, .slice none 0 0, .slice none 0 0, .slice none 0 0, .int .i64 0, .bool false]) := hid (by rw [show K4 = w1.heap.size by omega]; rw [hw2]; exact Blk.new _ _ _)
 have LO_K4 : Hid (w.heap.size ≤ K4) := hid (by omega)
 have NE_K2_K4 : Hid (K2 ≠ K4) := hid (by omega)
 have HB : Hid (Below w.heap.size w w2) := hid (by rw [hw2, hw1]; exact Bl.new (bel_new _ _) _)
 replace SL := hid (SL.out.call HB.out)
 replace SM_ := hid (SM_.out.call HB.out)
 have HW_w1 := hid hw1
 have HK_K2 := hid hK2
 have HW_w2 := hid hw2
 have HK_K4 := hid hK4
 clear hw1 hw2 hK2 hK4 zw1 zw2
 go_enter Tryz.func39, Tryz.ntmps39
 go_upto_region 1 with (fail)
 rw [← HW_w1.out, ← HK_K2.out, ← HK_K4.out, ← HW_w2.out]
 obtain ⟨_, _, he, hnc, _, _, hx⟩ := id SL.out
 injection he with e1 e2 e3
 subst e1 e3
 obtain ⟨b, o, rfl, hb, hc⟩ := hx (by omega)
 have x0 : w2.cell? ⟨b, o, none⟩ = some (.string ⟨#[101, 100, 103, 101]⟩) := hc 0 _ rfl
 clear hx hc hb
 have hdr : ∀ W, (Instr.slice 92 (.slice (some ⟨b, o, none⟩) 3 cl) (some (.int .i64 1)) none none).run Tryz.prog W = .ok (.slice (cutA (some ⟨b, o, none⟩) cl 1 1) 2 (cl - 1)) W := fun W => run_drop_of Tstrs (some ⟨b, o, none⟩) 3 cl 1 (by omega) W
 have SD : Hid (Sl w2 w2.heap.size 1 (.slice (cutA (some ⟨b, o, none⟩) cl 1 1) 2 (cl - 1)) 2 (strs (([6, 4] : List Nat).map dg))) := hid (Sl.drop (k := 1) SL.out (by omega))
 clear SL
 go_wp2_with fail
 refine (cmd_edge _).mono ?_; rintro e _ ⟨rfl, rfl⟩
 go_upto_region 11 with (fail)
 generalize cutA (some ⟨b, o, none⟩) cl 1 1 = AD at SD hdr
 generalize cl - 1 = cd at SD hdr
 go_wp2_with fail
 have HBk := hid HB.out.size
 refine (numsL (ds := [6, 4]) 2 rfl (by intro d hd; simp at hd; unfold IsDg; omega) (by simp) SD.out).mono ?_; rintro e w3 ⟨Ag, cg, rfl, SG_, b_⟩
 clear x0
 replace D_K2 := hid (D_K2.out.on b_)
 replace D_K4 := hid (D_K4.out.on b_)
 replace SD := hid (SD.out.call b_)
 replace SM_ := hid (SM_.out.call b_)
 replace HB := hid (Bl.call HB.out b_)
 have SG := hid SG_
 clear SG_
 clear b_
 clear SD hdr hnc
 go_upto_region 16 with (fail)
 obtain ⟨_, _, he, _, _, _, hx⟩ := id SG.out
 injection he with e1 e2 e3
 subst e1 e3
 obtain ⟨bg, og, rfl, hbg, hcg⟩ := hx (by omega)
 have X0 : Hid (w3.cell? ⟨bg, og, none⟩ = some (.int .u64 6)) := hid (hcg 0 _ rfl)
 have X1 : Hid (w3.cell? ⟨bg, og + 1, none⟩ = some (.int .u64 4)) := hid (hcg 1 _ rfl)
 have HBG : Hid (bg < w3.heap.size) := hid hbg
 clear hx hcg hbg
 clear SG
 go_upto_region 17 with (fail)
 obtain ⟨w4, hw4⟩ : ∃ W, W = w3.alloc (.cells #[.int .i64 3, .int .u64 0, .int .u64 0, .string ⟨#[]⟩] 124) := ⟨_, rfl⟩
 obtain ⟨K12, hK12⟩ : ∃ K, K = w3.heap.size := ⟨_, rfl⟩
 have b_ := bel_new w3 (.cells #[.int .i64 3, .int .u64 0, .int .u64 0, .string ⟨#[]⟩] 124)
 rw [← hw4] at b_
 have D_K12 : Hid (Blk w4 K12 124 [.int .i64 3, .int .u64 0, .int .u64 0, .string ⟨#[]⟩]) := hid (by rw [hw4, hK12]; exact Blk.new _ _ _)
 have LO_K12 : Hid (w.heap.size ≤ K12) := hid (by rw [hK12]; exact HB.out.size)
 have NE_K2_K12 : Hid (K2 ≠ K12) := hid (by have := D_K2.out.lt; rw [hK12]; omega)
 have NE_K4_K12 : Hid (K4 ≠ K12) := hid (by have := D_K4.out.lt; rw [hK12]; omega)
 replace D_K2 := hid (D_K2.out.on b_)
 replace D_K4 := hid (D_K4.out.on b_)
 replace SM_ := hid (SM_.out.call b_)
 replace HB := hid (Bl.call HB.out b_)
 rw [← hw4, ← hK12]
 have HW_w4 := hid hw4
 have HK_K12 := hid hK12
 clear b_ hw4 hK12
 have NBG : Hid (bg ≠ K12) := hid (by have := HK_K12.out; have := HBG.out; omega)
 replace X0 : Hid (w4.cell? ⟨bg, og, none⟩ = some (.int .u64 6)) := hid (by rw [HW_w4.out]; exact cell_later (bel_new _ _) X0.out)
 replace X1 : Hid (w4.cell? ⟨bg, og + 1, none⟩ = some (.int .u64 4)) := hid (by rw [HW_w4.out]; exact cell_later (bel_new _ _) X1.out)
 have x := X0.out
 have cK120 := D_K12.out.cell 0
 have cK121 := D_K12.out.cell 1
 have cK122 := D_K12.out.cell 2
 have cK123 := D_K12.out.cell 3
 have fK120 := D_K12.out.frozen 0
 have fK121 := D_K12.out.frozen 1
 have fK122 := D_K12.out.frozen 2
 have fK123 := D_K12.out.frozen 3
 obtain ⟨w5, hw5⟩ : ∃ W, W = (w4.setCell ⟨K12, 1, none⟩ (.int .u64 6)) := ⟨_, rfl⟩
 have E_K2 : Hid (Blk w5 K2 87 [.int .i64 3, .int .i64 2, .int .i64 1, .slice A1 2 c1, .slice A2 0 c2, .slice A3 3 c3, .slice Aw 4 cw, .int .i64 4, .bool true]) := hid (by rw [hw5]; exact (D_K2.out).far (p := ⟨K12, 1, none⟩) NE_K2_K12.out _)
 have E_K4 : Hid (Blk w5 K4 87 [.int .i64 0, .int .i64 0, .int .i64 0, .slice none 0 0, .slice none 0 0, .slice none 0 0, .slice none 0 0, .int .i64 0, .bool false]) := hid (by rw [hw5]; exact (D_K4.out).far (p := ⟨K12, 1, none⟩) NE_K4_K12.out _)
 have E_K12 : Hid (Blk w5 K12 124 [.int .i64 3, .int .u64 6, .int .u64 0, .string ⟨#[]⟩]) := hid (by rw [hw5]; exact (D_K12.out).put 1 _)
 have EB : Hid (Below w.heap.size w w5) := hid (by rw [hw5]; exact (HB.out).setCell (p := ⟨K12, 1, none⟩) LO_K12.out _)
 have E_X1 : Hid (w5.cell? ⟨bg, og + 1, none⟩ = some (.int .u64 4)) := hid (by rw [hw5]; exact by rw [World.cell?_setCell_far _ _ _ _ (Ne.symm NBG.out)]; exact X1.out)
 have E_SM_ : Hid (SM w5 (.slice A1 2 c1) (.slice A2 0 c2) (.slice A3 3 c3) [] sA3) := hid (by rw [hw5]; exact HM.out.call (HB.out.setCell (p := ⟨K12, _, none⟩) LO_K12.out _))
 have HW_w5 := hid hw5
 clear hw5
 go_upto_region 19 with (fail)
 rw [← HW_w5.out]
 clear x cK120 cK121 cK122 cK123 fK120 fK121 fK122 fK123
 clear HB D_K2 D_K4 D_K12 X1 SM_
 have D_K2 := E_K2
 have D_K4 := E_K4
 have D_K12 := E_K12
 have HB := EB
 have X1 := E_X1
 have SM_ := E_SM_
 clear EB E_K2 E_K4 E_K12 E_X1 E_SM_
 have x := X1.out
 have cK120 := D_K12.out.cell 0
 have cK121 := D_K12.out.cell 1
 have cK122 := D_K12.out.cell 2
 have cK123 := D_K12.out.cell 3
 have fK120 := D_K12.out.frozen 0
 have fK121 := D_K12.out.frozen 1
 have fK122 := D_K12.out.frozen 2
 have fK123 := D_K12.out.frozen 3
 obtain ⟨w6, hw6⟩ : ∃ W, W = (w5.setCell ⟨K12, 2, none⟩ (.int .u64 4)) := ⟨_, rfl⟩
 have E_K2 : Hid (Blk w6 K2 87 [.int .i64 3, .int .i64 2, .int .i64 1, .slice A1 2 c1, .slice A2 0 c2, .slice A3 3 c3, .slice Aw 4 cw, .int .i64 4, .bool true]) := hid (by rw [hw6]; exact (D_K2.out).far (p := ⟨K12, 2, none⟩) NE_K2_K12.out _)
 have E_K4 : Hid (Blk w6 K4 87 [.int .i64 0, .int .i64 0, .int .i64 0, .slice none 0 0, .slice none 0 0, .slice none 0 0, .slice none 0 0, .int .i64 0, .bool false]) := hid (by rw [hw6]; exact (D_K4.out).far (p := ⟨K12, 2, none⟩) NE_K4_K12.out _)
 have E_K12 : Hid (Blk w6 K12 124 [.int .i64 3, .int .u64 6, .int .u64 4, .string ⟨#[]⟩]) := hid (by rw [hw6]; exact (D_K12.out).put 2 _)
 have EB : Hid (Below w.heap.size w w6) := hid (by rw [hw6]; exact (HB.out).setCell (p := ⟨K12, 2, none⟩) LO_K12.out _)
 have E_SM_ : Hid (SM w6 (.slice A1 2 c1) (.slice A2 0 c2) (.slice A3 3 c3) [] sA3) := hid (by rw [hw6]; exact HM.out.call (HB.out.setCell (p := ⟨K12, _, none⟩) LO_K12.out _))
 have HW_w6 := hid hw6
 clear hw6
 go_upto_region 21 with (fail)
 rw [← HW_w6.out]
 clear x cK120 cK121 cK122 cK123 fK120 fK121 fK122 fK123
 clear HB D_K2 D_K4 D_K12 SM_
 have D_K2 := E_K2
 have D_K4 := E_K4
 have D_K12 := E_K12
 have HB := EB
 have SM_ := E_SM_
 clear EB E_K2 E_K4 E_K12 E_SM_
 have cK20 := D_K2.out.cell 0
 have cK21 := D_K2.out.cell 1
 have cK22 := D_K2.out.cell 2
 have cK23 := D_K2.out.cell 3
 have cK24 := D_K2.out.cell 4
 have cK25 := D_K2.out.cell 5
 have cK26 := D_K2.out.cell 6
 have cK27 := D_K2.out.cell 7
 have cK28 := D_K2.out.cell 8
 have cK120 := D_K12.out.cell 0
 have cK121 := D_K12.out.cell 1
 have cK122 := D_K12.out.cell 2
 have cK123 := D_K12.out.cell 3
 have L4 : Hid (K4 < w6.heap.size) := hid D_K4.out.lt
 go_wp2_with fail
 replace HBk := hid HB.out.size
 refine (done_ins SM_.out).mono ?_; rintro e w7 ⟨AN, cN, rfl, SN_, oN, b_⟩
 clear cK20 cK21 cK22 cK23 cK24 cK25 cK26 cK27 cK28 cK120 cK121 cK122 cK123
 replace D_K2 := hid (D_K2.out.on b_)
 replace D_K4 := hid (D_K4.out.on b_)
 replace D_K12 := hid (D_K12.out.on b_)
 replace SM_ := hid (SM_.out.call b_)
 replace HB := hid (Bl.call HB.out b_)
 have SN := hid SN_
 clear SN_
 clear b_
 have OFN : Hid (∀ K, K < w.heap.size → Off K (.slice AN 1 cN)) := hid (fun K hK => oN K (by have := HBk.out; omega))
 have OG : Hid (Off K4 (.slice AN 1 cN)) := hid (oN K4 L4.out)
 clear oN L4
 have SN3 := hid SN.out.se
 clear SN SM_
 have cK40 := D_K4.out.cell 0
 have cK41 := D_K4.out.cell 1
 have cK42 := D_K4.out.cell 2
 have cK43 := D_K4.out.cell 3
 have cK44 := D_K4.out.cell 4
 have cK45 := D_K4.out.cell 5
 have cK46 := D_K4.out.cell 6
 have cK47 := D_K4.out.cell 7
 have cK48 := D_K4.out.cell 8
 have fK40 := D_K4.out.frozen 0
 have fK41 := D_K4.out.frozen 1
 have fK42 := D_K4.out.frozen 2
 have fK43 := D_K4.out.frozen 3
 have fK44 := D_K4.out.frozen 4
 have fK45 := D_K4.out.frozen 5
 have fK46 := D_K4.out.frozen 6
 have fK47 := D_K4.out.frozen 7
 have fK48 := D_K4.out.frozen 8
 obtain ⟨w8, hw8⟩ : ∃ W, W = (((((((((w7.setCell ⟨K4, 0, none⟩ (.int .i64 3)).setCell ⟨K4, 1, none⟩ (.int .i64 2)).setCell ⟨K4, 2, none⟩ (.int .i64 1)).setCell ⟨K4, 3, none⟩ (.slice A1 2 c1)).setCell ⟨K4, 4, none⟩ (.slice AN 1 cN)).setCell ⟨K4, 5, none⟩ (.slice A3 3 c3)).setCell ⟨K4, 6, none⟩ (.slice Aw 4 cw)).setCell ⟨K4, 7, none⟩ (.int .i64 4)).setCell ⟨K4, 8, none⟩ (.bool true)) := ⟨_, rfl⟩
 have E_K2 : Hid (Blk w8 K2 87 [.int .i64 3, .int .i64 2, .int .i64 1, .slice A1 2 c1, .slice A2 0 c2, .slice A3 3 c3, .slice Aw 4 cw, .int .i64 4, .bool true]) := hid (by rw [hw8]; exact (((((((((D_K2.out).far (p := ⟨K4, 0, none⟩) NE_K2_K4.out _).far (p := ⟨K4, 1, none⟩) NE_K2_K4.out _).far (p := ⟨K4, 2, none⟩) NE_K2_K4.out _).far (p := ⟨K4, 3, none⟩) NE_K2_K4.out _).far (p := ⟨K4, 4, none⟩) NE_K2_K4.out _).far (p := ⟨K4, 5, none⟩) NE_K2_K4.out _).far (p := ⟨K4, 6, none⟩) NE_K2_K4.out _).far (p := ⟨K4, 7, none⟩) NE_K2_K4.out _).far (p := ⟨K4, 8, none⟩) NE_K2_K4.out _)
 have E_K4 : Hid (Blk w8 K4 87 [.int .i64 3, .int .i64 2, .int .i64 1, .slice A1 2 c1, .slice AN 1 cN, .slice A3 3 c3, .slice Aw 4 cw, .int .i64 4, .bool true]) := hid (by rw [hw8]; exact (((((((((D_K4.out).put 0 _).put 1 _).put 2 _).put 3 _).put 4 _).put 5 _).put 6 _).put 7 _).put 8 _)
 have E_K12 : Hid (Blk w8 K12 124 [.int .i64 3, .int .u64 6, .int .u64 4, .string ⟨#[]⟩]) := hid (by rw [hw8]; exact (((((((((D_K12.out).far (p := ⟨K4, 0, none⟩) NE_K4_K12.out.symm _).far (p := ⟨K4, 1, none⟩) NE_K4_K12.out.symm _).far (p := ⟨K4, 2, none⟩) NE_K4_K12.out.symm _).far (p := ⟨K4, 3, none⟩) NE_K4_K12.out.symm _).far (p := ⟨K4, 4, none⟩) NE_K4_K12.out.symm _).far (p := ⟨K4, 5, none⟩) NE_K4_K12.out.symm _).far (p := ⟨K4, 6, none⟩) NE_K4_K12.out.symm _).far (p := ⟨K4, 7, none⟩) NE_K4_K12.out.symm _).far (p := ⟨K4, 8, none⟩) NE_K4_K12.out.symm _)
 have EB : Hid (Below w.heap.size w w8) := hid (by rw [hw8]; exact (((((((((HB.out).setCell (p := ⟨K4, 0, none⟩) LO_K4.out _).setCell (p := ⟨K4, 1, none⟩) LO_K4.out _).setCell (p := ⟨K4, 2, none⟩) LO_K4.out _).setCell (p := ⟨K4, 3, none⟩) LO_K4.out _).setCell (p := ⟨K4, 4, none⟩) LO_K4.out _).setCell (p := ⟨K4, 5, none⟩) LO_K4.out _).setCell (p := ⟨K4, 6, none⟩) LO_K4.out _).setCell (p := ⟨K4, 7, none⟩) LO_K4.out _).setCell (p := ⟨K4, 8, none⟩) LO_K4.out _)
 have E_SN3 : Hid (Sl w8 w8.heap.size 3 (.slice AN 1 cN) 1 (eds eA)) := hid (by rw [hw8]; exact (((((((((SN3.out.off OG.out).off OG.out).off OG.out).off OG.out).off OG.out).off OG.out).off OG.out).off OG.out).off OG.out))
 have HW_w8 := hid hw8
 clear hw8
 go_wp2
 rw [← HW_w8.out]
 clear cK40 cK41 cK42 cK43 cK44 cK45 cK46 cK47 cK48 fK40 fK41 fK42 fK43 fK44 fK45 fK46 fK47 fK48
 clear HB D_K2 D_K4 D_K12 SN3
 have D_K2 := E_K2
 have D_K4 := E_K4
 have D_K12 := E_K12
 have HB := EB
 have SN3 := E_SN3
 clear EB E_K2 E_K4 E_K12 E_SN3
 have cK40 := D_K4.out.cell 0
 have cK41 := D_K4.out.cell 1
 have cK42 := D_K4.out.cell 2
 have cK43 := D_K4.out.cell 3
 have cK44 := D_K4.out.cell 4
 have cK45 := D_K4.out.cell 5
 have cK46 := D_K4.out.cell 6
 have cK47 := D_K4.out.cell 7
 have cK48 := D_K4.out.cell 8
 exact bodyPost_ret (v := .tuple #[.agg #[.int .i64 3, .int .i64 2, .int .i64 1, .slice A1 2 c1, .slice AN 1 cN, .slice A3 3 c3, .slice Aw 4 cw, .int .i64 4, .bool true], .string ⟨#[111, 107]⟩]) (by simp [results, Tryz.results39, go_sem, cK40, cK41, cK42, cK43, cK44, cK45, cK46, cK47, cK48]) rfl ⟨_, _, rfl, ⟨HM.out.sh.call HB.out, SN3.out, HM.out.ss.call HB.out⟩, OFN.out, HB.out⟩
set_option maxHeartbeats 16000000 in
set_option maxRecDepth 100000 in
theorem line_conn {k : Nat} {s : ByteArray} (hk : IsDg k) (hd : ∀ W : World, SM W (.slice A1 2 c1) (.slice A2 1 c2) (.slice A3 3 c3) eA sA3 → Calls Tryz.prog 65 #[seN A1 c1 A2 1 c2 A3 c3 Aw cw, .agg #[.int .i64 8, .int .u64 4, .int .u64 (k : Int), .string ⟨#[]⟩]] W (LnAns A1 A2 A3 Aw c1 c2 c3 cw s W)) (hm : SM w (.slice A1 2 c1) (.slice A2 1 c2) (.slice A3 3 c3) eA sA3) (hl : Sl w w.heap.size 1 (.slice Al 3 cl) 3 (strs (⟨#[99, 111, 110, 110, 101, 99, 116, 101, 100]⟩ :: ([4, k] : List Nat).map dg))) : Calls Tryz.prog 39 #[.agg #[.int .i64 3, .int .i64 2, .int .i64 1, .slice A1 2 c1, .slice A2 1 c2, .slice A3 3 c3, .slice Aw 4 cw, .int .i64 4, .bool true], .slice Al 3 cl] w (LnAns A1 A2 A3 Aw c1 c2 c3 cw s w) := by
 have SL := hid hl
 have HM := hid hm
 have SM_ := hid hm
 clear hl hm
 have HK := hid hk
 have HD := hid hd
 clear hk hd
 obtain ⟨w1, hw1⟩ : ∃ W, W = w.alloc (.cells #[.int .i64 3, .int .i64 2, .int .i64 1, .slice A1 2 c1, .slice A2 1 c2, .slice A3 3 c3, .slice Aw 4 cw, .int .i64 4, .bool true] 87) := ⟨_, rfl⟩
 obtain ⟨K2, hK2⟩ : ∃ K, K = w.heap.size := ⟨_, rfl⟩
 obtain ⟨w2, hw2⟩ : ∃ W, W = w1.alloc (.cells #[.int .i64 0, .int .i64 0, .int .i64 0, .slice none 0 0, .slice none 0 0, .slice none 0 0, .slice none 0 0, .int .i64 0, .bool false] 87) := ⟨_, rfl⟩
 obtain ⟨K4, hK4⟩ : ∃ K, K = K2 + 1 := ⟨_, rfl⟩
 have zw1 : w1.heap.size = K2 + 1 := by rw [hw1, hK2]; simp
 have zw2 : w2.heap.size = K2 + 2 := by rw [hw2]; simp; exact zw1
 have D_K2 : Hid (Blk w2 K2 87 [.int .i64 3, .int .i64 2, .int .i64 1, .slice A1 2 c1, .slice A2 1 c2, .slice A3 3 c3, .slice Aw 4 cw, .int .i64 4, .bool true]) := hid (by rw [hK2]; rw [hw2, hw1]; exact (Blk.new _ _ _).alloc _)
 have LO_K2 : Hid (w.heap.size ≤ K2) := hid (by omega)
 have D_K4 : Hid (Blk w2 K4 87 [.int .i64 0, .int .i64 0, .int .i64 0, .slice none 0 0, .slice none 0 0, .slice none 0 0, .slice none 0 0, .int .i64 0, .bool false]) := hid (by rw [show K4 = w1.heap.size by omega]; rw [hw2]; exact Blk.new _ _ _)
 have LO_K4 : Hid (w.heap.size ≤ K4) := hid (by omega)
 have NE_K2_K4 : Hid (K2 ≠ K4) := hid (by omega)
 have HB : Hid (Below w.heap.size w w2) := hid (by rw [hw2, hw1]; exact Bl.new (bel_new _ _) _)
 replace SL := hid (SL.out.call HB.out)
 replace SM_ := hid (SM_.out.call HB.out)
 have HW_w1 := hid hw1
 have HK_K2 := hid hK2
 have HW_w2 := hid hw2
 have HK_K4 := hid hK4
 clear hw1 hw2 hK2 hK4 zw1 zw2
 go_enter Tryz.func39, Tryz.ntmps39
 go_upto_region 1 with (fail)
 rw [← HW_w1.out, ← HK_K2.out, ← HK_K4.out, ← HW_w2.out]
 obtain ⟨_, _, he, hnc, _, _, hx⟩ := id SL.out
 injection he with e1 e2 e3
 subst e1 e3
 obtain ⟨b, o, rfl, hb, hc⟩ := hx (by omega)
 have x0 : w2.cell? ⟨b, o, none⟩ = some (.string ⟨#[99, 111, 110, 110, 101, 99, 116, 101, 100]⟩) := hc 0 _ rfl
 clear hx hc hb
 have hdr : ∀ W, (Instr.slice 92 (.slice (some ⟨b, o, none⟩) 3 cl) (some (.int .i64 1)) none none).run Tryz.prog W = .ok (.slice (cutA (some ⟨b, o, none⟩) cl 1 1) 2 (cl - 1)) W := fun W => run_drop_of Tstrs (some ⟨b, o, none⟩) 3 cl 1 (by omega) W
 have SD : Hid (Sl w2 w2.heap.size 1 (.slice (cutA (some ⟨b, o, none⟩) cl 1 1) 2 (cl - 1)) 2 (strs (([4, k] : List Nat).map dg))) := hid (Sl.drop (k := 1) SL.out (by omega))
 clear SL
 go_wp2_with fail
 refine (cmd_connected _).mono ?_; rintro e _ ⟨rfl, rfl⟩
 go_upto_region 11 with (fail)
 generalize cutA (some ⟨b, o, none⟩) cl 1 1 = AD at SD hdr
 generalize cl - 1 = cd at SD hdr
 go_wp2_with fail
 have HBk := hid HB.out.size
 refine (numsL (ds := [4, k]) 2 rfl (by intro d hd; simp at hd; rcases hd with rfl | rfl; (unfold IsDg; omega); exact HK.out) (by simp) SD.out).mono ?_; rintro e w3 ⟨Ag, cg, rfl, SG_, b_⟩
 clear x0
 replace D_K2 := hid (D_K2.out.on b_)
 replace D_K4 := hid (D_K4.out.on b_)
 replace SD := hid (SD.out.call b_)
 replace SM_ := hid (SM_.out.call b_)
 replace HB := hid (Bl.call HB.out b_)
 have SG := hid SG_
 clear SG_
 clear b_
 clear SD hdr hnc
 go_upto_region 16 with (fail)
 obtain ⟨_, _, he, _, _, _, hx⟩ := id SG.out
 injection he with e1 e2 e3
 subst e1 e3
 obtain ⟨bg, og, rfl, hbg, hcg⟩ := hx (by omega)
 have X0 : Hid (w3.cell? ⟨bg, og, none⟩ = some (.int .u64 4)) := hid (hcg 0 _ rfl)
 have X1 : Hid (w3.cell? ⟨bg, og + 1, none⟩ = some (.int .u64 (k : Int))) := hid (hcg 1 _ rfl)
 have HBG : Hid (bg < w3.heap.size) := hid hbg
 clear hx hcg hbg
 clear SG
 go_upto_region 17 with (fail)
 obtain ⟨w4, hw4⟩ : ∃ W, W = w3.alloc (.cells #[.int .i64 8, .int .u64 0, .int .u64 0, .string ⟨#[]⟩] 124) := ⟨_, rfl⟩
 obtain ⟨K12, hK12⟩ : ∃ K, K = w3.heap.size := ⟨_, rfl⟩
 have b_ := bel_new w3 (.cells #[.int .i64 8, .int .u64 0, .int .u64 0, .string ⟨#[]⟩] 124)
 rw [← hw4] at b_
 have D_K12 : Hid (Blk w4 K12 124 [.int .i64 8, .int .u64 0, .int .u64 0, .string ⟨#[]⟩]) := hid (by rw [hw4, hK12]; exact Blk.new _ _ _)
 have LO_K12 : Hid (w.heap.size ≤ K12) := hid (by rw [hK12]; exact HB.out.size)
 have NE_K2_K12 : Hid (K2 ≠ K12) := hid (by have := D_K2.out.lt; rw [hK12]; omega)
 have NE_K4_K12 : Hid (K4 ≠ K12) := hid (by have := D_K4.out.lt; rw [hK12]; omega)
 replace D_K2 := hid (D_K2.out.on b_)
 replace D_K4 := hid (D_K4.out.on b_)
 replace SM_ := hid (SM_.out.call b_)
 replace HB := hid (Bl.call HB.out b_)
 rw [← hw4, ← hK12]
 have HW_w4 := hid hw4
 have HK_K12 := hid hK12
 clear b_ hw4 hK12
 have NBG : Hid (bg ≠ K12) := hid (by have := HK_K12.out; have := HBG.out; omega)
 replace X0 : Hid (w4.cell? ⟨bg, og, none⟩ = some (.int .u64 4)) := hid (by rw [HW_w4.out]; exact cell_later (bel_new _ _) X0.out)
 replace X1 : Hid (w4.cell? ⟨bg, og + 1, none⟩ = some (.int .u64 (k : Int))) := hid (by rw [HW_w4.out]; exact cell_later (bel_new _ _) X1.out)
 have x := X0.out
 have cK120 := D_K12.out.cell 0
 have cK121 := D_K12.out.cell 1
 have cK122 := D_K12.out.cell 2
 have cK123 := D_K12.out.cell 3
 have fK120 := D_K12.out.frozen 0
 have fK121 := D_K12.out.frozen 1
 have fK122 := D_K12.out.frozen 2
 have fK123 := D_K12.out.frozen 3
 obtain ⟨w5, hw5⟩ : ∃ W, W = (w4.setCell ⟨K12, 1, none⟩ (.int .u64 4)) := ⟨_, rfl⟩
 have E_K2 : Hid (Blk w5 K2 87 [.int .i64 3, .int .i64 2, .int .i64 1, .slice A1 2 c1, .slice A2 1 c2, .slice A3 3 c3, .slice Aw 4 cw, .int .i64 4, .bool true]) := hid (by rw [hw5]; exact (D_K2.out).far (p := ⟨K12, 1, none⟩) NE_K2_K12.out _)
 have E_K4 : Hid (Blk w5 K4 87 [.int .i64 0, .int .i64 0, .int .i64 0, .slice none 0 0, .slice none 0 0, .slice none 0 0, .slice none 0 0, .int .i64 0, .bool false]) := hid (by rw [hw5]; exact (D_K4.out).far (p := ⟨K12, 1, none⟩) NE_K4_K12.out _)
 have E_K12 : Hid (Blk w5 K12 124 [.int .i64 8, .int .u64 4, .int .u64 0, .string ⟨#[]⟩]) := hid (by rw [hw5]; exact (D_K12.out).put 1 _)
 have EB : Hid (Below w.heap.size w w5) := hid (by rw [hw5]; exact (HB.out).setCell (p := ⟨K12, 1, none⟩) LO_K12.out _)
 have E_X1 : Hid (w5.cell? ⟨bg, og + 1, none⟩ = some (.int .u64 (k : Int))) := hid (by rw [hw5]; exact by rw [World.cell?_setCell_far _ _ _ _ (Ne.symm NBG.out)]; exact X1.out)
 have E_SM_ : Hid (SM w5 (.slice A1 2 c1) (.slice A2 1 c2) (.slice A3 3 c3) eA sA3) := hid (by rw [hw5]; exact HM.out.call (HB.out.setCell (p := ⟨K12, _, none⟩) LO_K12.out _))
 have HW_w5 := hid hw5
 clear hw5
 go_upto_region 19 with (fail)
 rw [← HW_w5.out]
 clear x cK120 cK121 cK122 cK123 fK120 fK121 fK122 fK123
 clear HB D_K2 D_K4 D_K12 X1 SM_
 have D_K2 := E_K2
 have D_K4 := E_K4
 have D_K12 := E_K12
 have HB := EB
 have X1 := E_X1
 have SM_ := E_SM_
 clear EB E_K2 E_K4 E_K12 E_X1 E_SM_
 have x := X1.out
 have cK120 := D_K12.out.cell 0
 have cK121 := D_K12.out.cell 1
 have cK122 := D_K12.out.cell 2
 have cK123 := D_K12.out.cell 3
 have fK120 := D_K12.out.frozen 0
 have fK121 := D_K12.out.frozen 1
 have fK122 := D_K12.out.frozen 2
 have fK123 := D_K12.out.frozen 3
 obtain ⟨w6, hw6⟩ : ∃ W, W = (w5.setCell ⟨K12, 2, none⟩ (.int .u64 (k : Int))) := ⟨_, rfl⟩
 have E_K2 : Hid (Blk w6 K2 87 [.int .i64 3, .int .i64 2, .int .i64 1, .slice A1 2 c1, .slice A2 1 c2, .slice A3 3 c3, .slice Aw 4 cw, .int .i64 4, .bool true]) := hid (by rw [hw6]; exact (D_K2.out).far (p := ⟨K12, 2, none⟩) NE_K2_K12.out _)
 have E_K4 : Hid (Blk w6 K4 87 [.int .i64 0, .int .i64 0, .int .i64 0, .slice none 0 0, .slice none 0 0, .slice none 0 0, .slice none 0 0, .int .i64 0, .bool false]) := hid (by rw [hw6]; exact (D_K4.out).far (p := ⟨K12, 2, none⟩) NE_K4_K12.out _)
 have E_K12 : Hid (Blk w6 K12 124 [.int .i64 8, .int .u64 4, .int .u64 (k : Int), .string ⟨#[]⟩]) := hid (by rw [hw6]; exact (D_K12.out).put 2 _)
 have EB : Hid (Below w.heap.size w w6) := hid (by rw [hw6]; exact (HB.out).setCell (p := ⟨K12, 2, none⟩) LO_K12.out _)
 have E_SM_ : Hid (SM w6 (.slice A1 2 c1) (.slice A2 1 c2) (.slice A3 3 c3) eA sA3) := hid (by rw [hw6]; exact HM.out.call (HB.out.setCell (p := ⟨K12, _, none⟩) LO_K12.out _))
 have HW_w6 := hid hw6
 clear hw6
 go_upto_region 21 with (fail)
 rw [← HW_w6.out]
 clear x cK120 cK121 cK122 cK123 fK120 fK121 fK122 fK123
 clear HB D_K2 D_K4 D_K12 SM_
 have D_K2 := E_K2
 have D_K4 := E_K4
 have D_K12 := E_K12
 have HB := EB
 have SM_ := E_SM_
 clear EB E_K2 E_K4 E_K12 E_SM_
 have cK20 := D_K2.out.cell 0
 have cK21 := D_K2.out.cell 1
 have cK22 := D_K2.out.cell 2
 have cK23 := D_K2.out.cell 3
 have cK24 := D_K2.out.cell 4
 have cK25 := D_K2.out.cell 5
 have cK26 := D_K2.out.cell 6
 have cK27 := D_K2.out.cell 7
 have cK28 := D_K2.out.cell 8
 have cK120 := D_K12.out.cell 0
 have cK121 := D_K12.out.cell 1
 have cK122 := D_K12.out.cell 2
 have cK123 := D_K12.out.cell 3
 have L4 : Hid (K4 < w6.heap.size) := hid D_K4.out.lt
 go_wp2_with fail
 replace HBk := hid HB.out.size
 refine (HD.out _ SM_.out).mono ?_; rintro e w7 ⟨rfl, b_⟩
 clear cK20 cK21 cK22 cK23 cK24 cK25 cK26 cK27 cK28 cK120 cK121 cK122 cK123
 replace D_K2 := hid (D_K2.out.on b_)
 replace D_K4 := hid (D_K4.out.on b_)
 replace D_K12 := hid (D_K12.out.on b_)
 replace SM_ := hid (SM_.out.call b_)
 replace HB := hid (Bl.call HB.out b_)
 clear b_
 clear L4 SM_
 have cK40 := D_K4.out.cell 0
 have cK41 := D_K4.out.cell 1
 have cK42 := D_K4.out.cell 2
 have cK43 := D_K4.out.cell 3
 have cK44 := D_K4.out.cell 4
 have cK45 := D_K4.out.cell 5
 have cK46 := D_K4.out.cell 6
 have cK47 := D_K4.out.cell 7
 have cK48 := D_K4.out.cell 8
 have fK40 := D_K4.out.frozen 0
 have fK41 := D_K4.out.frozen 1
 have fK42 := D_K4.out.frozen 2
 have fK43 := D_K4.out.frozen 3
 have fK44 := D_K4.out.frozen 4
 have fK45 := D_K4.out.frozen 5
 have fK46 := D_K4.out.frozen 6
 have fK47 := D_K4.out.frozen 7
 have fK48 := D_K4.out.frozen 8
 obtain ⟨w8, hw8⟩ : ∃ W, W = (((((((((w7.setCell ⟨K4, 0, none⟩ (.int .i64 3)).setCell ⟨K4, 1, none⟩ (.int .i64 2)).setCell ⟨K4, 2, none⟩ (.int .i64 1)).setCell ⟨K4, 3, none⟩ (.slice A1 2 c1)).setCell ⟨K4, 4, none⟩ (.slice A2 1 c2)).setCell ⟨K4, 5, none⟩ (.slice A3 3 c3)).setCell ⟨K4, 6, none⟩ (.slice Aw 4 cw)).setCell ⟨K4, 7, none⟩ (.int .i64 4)).setCell ⟨K4, 8, none⟩ (.bool true)) := ⟨_, rfl⟩
 have E_K2 : Hid (Blk w8 K2 87 [.int .i64 3, .int .i64 2, .int .i64 1, .slice A1 2 c1, .slice A2 1 c2, .slice A3 3 c3, .slice Aw 4 cw, .int .i64 4, .bool true]) := hid (by rw [hw8]; exact (((((((((D_K2.out).far (p := ⟨K4, 0, none⟩) NE_K2_K4.out _).far (p := ⟨K4, 1, none⟩) NE_K2_K4.out _).far (p := ⟨K4, 2, none⟩) NE_K2_K4.out _).far (p := ⟨K4, 3, none⟩) NE_K2_K4.out _).far (p := ⟨K4, 4, none⟩) NE_K2_K4.out _).far (p := ⟨K4, 5, none⟩) NE_K2_K4.out _).far (p := ⟨K4, 6, none⟩) NE_K2_K4.out _).far (p := ⟨K4, 7, none⟩) NE_K2_K4.out _).far (p := ⟨K4, 8, none⟩) NE_K2_K4.out _)
 have E_K4 : Hid (Blk w8 K4 87 [.int .i64 3, .int .i64 2, .int .i64 1, .slice A1 2 c1, .slice A2 1 c2, .slice A3 3 c3, .slice Aw 4 cw, .int .i64 4, .bool true]) := hid (by rw [hw8]; exact (((((((((D_K4.out).put 0 _).put 1 _).put 2 _).put 3 _).put 4 _).put 5 _).put 6 _).put 7 _).put 8 _)
 have E_K12 : Hid (Blk w8 K12 124 [.int .i64 8, .int .u64 4, .int .u64 (k : Int), .string ⟨#[]⟩]) := hid (by rw [hw8]; exact (((((((((D_K12.out).far (p := ⟨K4, 0, none⟩) NE_K4_K12.out.symm _).far (p := ⟨K4, 1, none⟩) NE_K4_K12.out.symm _).far (p := ⟨K4, 2, none⟩) NE_K4_K12.out.symm _).far (p := ⟨K4, 3, none⟩) NE_K4_K12.out.symm _).far (p := ⟨K4, 4, none⟩) NE_K4_K12.out.symm _).far (p := ⟨K4, 5, none⟩) NE_K4_K12.out.symm _).far (p := ⟨K4, 6, none⟩) NE_K4_K12.out.symm _).far (p := ⟨K4, 7, none⟩) NE_K4_K12.out.symm _).far (p := ⟨K4, 8, none⟩) NE_K4_K12.out.symm _)
 have EB : Hid (Below w.heap.size w w8) := hid (by rw [hw8]; exact (((((((((HB.out).setCell (p := ⟨K4, 0, none⟩) LO_K4.out _).setCell (p := ⟨K4, 1, none⟩) LO_K4.out _).setCell (p := ⟨K4, 2, none⟩) LO_K4.out _).setCell (p := ⟨K4, 3, none⟩) LO_K4.out _).setCell (p := ⟨K4, 4, none⟩) LO_K4.out _).setCell (p := ⟨K4, 5, none⟩) LO_K4.out _).setCell (p := ⟨K4, 6, none⟩) LO_K4.out _).setCell (p := ⟨K4, 7, none⟩) LO_K4.out _).setCell (p := ⟨K4, 8, none⟩) LO_K4.out _)
 have HW_w8 := hid hw8
 clear hw8
 go_wp2
 rw [← HW_w8.out]
 clear cK40 cK41 cK42 cK43 cK44 cK45 cK46 cK47 cK48 fK40 fK41 fK42 fK43 fK44 fK45 fK46 fK47 fK48
 clear HB D_K2 D_K4 D_K12
 have D_K2 := E_K2
 have D_K4 := E_K4
 have D_K12 := E_K12
 have HB := EB
 clear EB E_K2 E_K4 E_K12
 have cK40 := D_K4.out.cell 0
 have cK41 := D_K4.out.cell 1
 have cK42 := D_K4.out.cell 2
 have cK43 := D_K4.out.cell 3
 have cK44 := D_K4.out.cell 4
 have cK45 := D_K4.out.cell 5
 have cK46 := D_K4.out.cell 6
 have cK47 := D_K4.out.cell 7
 have cK48 := D_K4.out.cell 8
 exact bodyPost_ret (v := .tuple #[.agg #[.int .i64 3, .int .i64 2, .int .i64 1, .slice A1 2 c1, .slice A2 1 c2, .slice A3 3 c3, .slice Aw 4 cw, .int .i64 4, .bool true], .string s]) (by simp [results, Tryz.results39, go_sem, cK40, cK41, cK42, cK43, cK44, cK45, cK46, cK47, cK48]) rfl ⟨rfl, HB.out⟩
set_option maxHeartbeats 16000000 in
set_option maxRecDepth 100000 in
theorem line_conn1 (hm : SM w (.slice A1 2 c1) (.slice A2 1 c2) (.slice A3 3 c3) eA sA3) (hl : Sl w w.heap.size 1 (.slice Al 3 cl) 3 (strs (⟨#[99, 111, 110, 110, 101, 99, 116, 101, 100]⟩ :: ([4, 6] : List Nat).map dg))) : Calls Tryz.prog 39 #[.agg #[.int .i64 3, .int .i64 2, .int .i64 1, .slice A1 2 c1, .slice A2 1 c2, .slice A3 3 c3, .slice Aw 4 cw, .int .i64 4, .bool true], .slice Al 3 cl] w (LnAns A1 A2 A3 Aw c1 c2 c3 cw ⟨#[121, 101, 115]⟩ w) := by
 exact line_conn (k := 6) (by unfold IsDg; omega) (fun _ h => done_conn1 h) hm hl
set_option maxHeartbeats 16000000 in
set_option maxRecDepth 100000 in
theorem line_conn2 (hm : SM w (.slice A1 2 c1) (.slice A2 1 c2) (.slice A3 3 c3) eA sA3) (hl : Sl w w.heap.size 1 (.slice Al 3 cl) 3 (strs (⟨#[99, 111, 110, 110, 101, 99, 116, 101, 100]⟩ :: ([4, 8] : List Nat).map dg))) : Calls Tryz.prog 39 #[.agg #[.int .i64 3, .int .i64 2, .int .i64 1, .slice A1 2 c1, .slice A2 1 c2, .slice A3 3 c3, .slice Aw 4 cw, .int .i64 4, .bool true], .slice Al 3 cl] w (LnAns A1 A2 A3 Aw c1 c2 c3 cw ⟨#[110, 111]⟩ w) := by
 exact line_conn (k := 8) (by unfold IsDg; omega) (fun _ h => done_conn2 h) hm hl
set_option maxHeartbeats 16000000 in
set_option maxRecDepth 100000 in
theorem line_audit (hm : SM w (.slice A1 2 c1) (.slice A2 1 c2) (.slice A3 3 c3) eA sA3) (hl : Sl w w.heap.size 1 (.slice Al 1 cl) 1 (strs (⟨#[97, 117, 100, 105, 116]⟩ :: ([] : List Nat).map dg))) : Calls Tryz.prog 39 #[.agg #[.int .i64 3, .int .i64 2, .int .i64 1, .slice A1 2 c1, .slice A2 1 c2, .slice A3 3 c3, .slice Aw 4 cw, .int .i64 4, .bool true], .slice Al 1 cl] w (LnAns A1 A2 A3 Aw c1 c2 c3 cw ⟨#[121, 101, 115]⟩ w) := by
 have SL := hid hl
 have HM := hid hm
 have SM_ := hid hm
 clear hl hm
 obtain ⟨w1, hw1⟩ : ∃ W, W = w.alloc (.cells #[.int .i64 3, .int .i64 2, .int .i64 1, .slice A1 2 c1, .slice A2 1 c2, .slice A3 3 c3, .slice Aw 4 cw, .int .i64 4, .bool true] 87) := ⟨_, rfl⟩
 obtain ⟨K2, hK2⟩ : ∃ K, K = w.heap.size := ⟨_, rfl⟩
 obtain ⟨w2, hw2⟩ : ∃ W, W = w1.alloc (.cells #[.int .i64 0, .int .i64 0, .int .i64 0, .slice none 0 0, .slice none 0 0, .slice none 0 0, .slice none 0 0, .int .i64 0, .bool false] 87) := ⟨_, rfl⟩
 obtain ⟨K4, hK4⟩ : ∃ K, K = K2 + 1 := ⟨_, rfl⟩
 have zw1 : w1.heap.size = K2 + 1 := by rw [hw1, hK2]; simp
 have zw2 : w2.heap.size = K2 + 2 := by rw [hw2]; simp; exact zw1
 have D_K2 : Hid (Blk w2 K2 87 [.int .i64 3, .int .i64 2, .int .i64 1, .slice A1 2 c1, .slice A2 1 c2, .slice A3 3 c3, .slice Aw 4 cw, .int .i64 4, .bool true]) := hid (by rw [hK2]; rw [hw2, hw1]; exact (Blk.new _ _ _).alloc _)
 have LO_K2 : Hid (w.heap.size ≤ K2) := hid (by omega)
 have D_K4 : Hid (Blk w2 K4 87 [.int .i64 0, .int .i64 0, .int .i64 0, .slice none 0 0, .slice none 0 0, .slice none 0 0, .slice none 0 0, .int .i64 0, .bool false]) := hid (by rw [show K4 = w1.heap.size by omega]; rw [hw2]; exact Blk.new _ _ _)
 have LO_K4 : Hid (w.heap.size ≤ K4) := hid (by omega)
 have NE_K2_K4 : Hid (K2 ≠ K4) := hid (by omega)
 have HB : Hid (Below w.heap.size w w2) := hid (by rw [hw2, hw1]; exact Bl.new (bel_new _ _) _)
 replace SL := hid (SL.out.call HB.out)
 replace SM_ := hid (SM_.out.call HB.out)
 have HW_w1 := hid hw1
 have HK_K2 := hid hK2
 have HW_w2 := hid hw2
 have HK_K4 := hid hK4
 clear hw1 hw2 hK2 hK4 zw1 zw2
 go_enter Tryz.func39, Tryz.ntmps39
 go_upto_region 1 with (fail)
 rw [← HW_w1.out, ← HK_K2.out, ← HK_K4.out, ← HW_w2.out]
 obtain ⟨_, _, he, hnc, _, _, hx⟩ := id SL.out
 injection he with e1 e2 e3
 subst e1 e3
 obtain ⟨b, o, rfl, hb, hc⟩ := hx (by omega)
 have x0 : w2.cell? ⟨b, o, none⟩ = some (.string ⟨#[97, 117, 100, 105, 116]⟩) := hc 0 _ rfl
 clear hx hc hb
 have hdr : ∀ W, (Instr.slice 92 (.slice (some ⟨b, o, none⟩) 1 cl) (some (.int .i64 1)) none none).run Tryz.prog W = .ok (.slice (cutA (some ⟨b, o, none⟩) cl 1 1) 0 (cl - 1)) W := fun W => run_drop_of Tstrs (some ⟨b, o, none⟩) 1 cl 1 (by omega) W
 have SD : Hid (Sl w2 w2.heap.size 1 (.slice (cutA (some ⟨b, o, none⟩) cl 1 1) 0 (cl - 1)) 0 (strs (([] : List Nat).map dg))) := hid (Sl.drop (k := 1) SL.out (by omega))
 clear SL
 go_wp2_with fail
 refine (cmd_audit _).mono ?_; rintro e _ ⟨rfl, rfl⟩
 go_upto_region 11 with (fail)
 generalize cutA (some ⟨b, o, none⟩) cl 1 1 = AD at SD hdr
 generalize cl - 1 = cd at SD hdr
 go_wp2_with fail
 have HBk := hid HB.out.size
 refine (numsL (ds := []) 0 rfl (by intro d hd; cases hd) (by simp) SD.out).mono ?_; rintro e w3 ⟨Ag, cg, rfl, SG_, b_⟩
 clear x0
 replace D_K2 := hid (D_K2.out.on b_)
 replace D_K4 := hid (D_K4.out.on b_)
 replace SD := hid (SD.out.call b_)
 replace SM_ := hid (SM_.out.call b_)
 replace HB := hid (Bl.call HB.out b_)
 have SG := hid SG_
 clear SG_
 clear b_
 clear SD hdr hnc
 go_upto_region 16 with (fail)
 clear SG
 go_upto_region 17 with (fail)
 obtain ⟨w4, hw4⟩ : ∃ W, W = w3.alloc (.cells #[.int .i64 13, .int .u64 0, .int .u64 0, .string ⟨#[]⟩] 124) := ⟨_, rfl⟩
 obtain ⟨K12, hK12⟩ : ∃ K, K = w3.heap.size := ⟨_, rfl⟩
 have b_ := bel_new w3 (.cells #[.int .i64 13, .int .u64 0, .int .u64 0, .string ⟨#[]⟩] 124)
 rw [← hw4] at b_
 have D_K12 : Hid (Blk w4 K12 124 [.int .i64 13, .int .u64 0, .int .u64 0, .string ⟨#[]⟩]) := hid (by rw [hw4, hK12]; exact Blk.new _ _ _)
 have LO_K12 : Hid (w.heap.size ≤ K12) := hid (by rw [hK12]; exact HB.out.size)
 have NE_K2_K12 : Hid (K2 ≠ K12) := hid (by have := D_K2.out.lt; rw [hK12]; omega)
 have NE_K4_K12 : Hid (K4 ≠ K12) := hid (by have := D_K4.out.lt; rw [hK12]; omega)
 replace D_K2 := hid (D_K2.out.on b_)
 replace D_K4 := hid (D_K4.out.on b_)
 replace SM_ := hid (SM_.out.call b_)
 replace HB := hid (Bl.call HB.out b_)
 rw [← hw4, ← hK12]
 have HW_w4 := hid hw4
 have HK_K12 := hid hK12
 clear b_ hw4 hK12
 go_upto_region 21 with (fail)
 have cK20 := D_K2.out.cell 0
 have cK21 := D_K2.out.cell 1
 have cK22 := D_K2.out.cell 2
 have cK23 := D_K2.out.cell 3
 have cK24 := D_K2.out.cell 4
 have cK25 := D_K2.out.cell 5
 have cK26 := D_K2.out.cell 6
 have cK27 := D_K2.out.cell 7
 have cK28 := D_K2.out.cell 8
 have cK120 := D_K12.out.cell 0
 have cK121 := D_K12.out.cell 1
 have cK122 := D_K12.out.cell 2
 have cK123 := D_K12.out.cell 3
 have L4 : Hid (K4 < w4.heap.size) := hid D_K4.out.lt
 go_wp2_with fail
 replace HBk := hid HB.out.size
 refine (done_audit SM_.out).mono ?_; rintro e w5 ⟨rfl, b_⟩
 clear cK20 cK21 cK22 cK23 cK24 cK25 cK26 cK27 cK28 cK120 cK121 cK122 cK123
 replace D_K2 := hid (D_K2.out.on b_)
 replace D_K4 := hid (D_K4.out.on b_)
 replace D_K12 := hid (D_K12.out.on b_)
 replace SM_ := hid (SM_.out.call b_)
 replace HB := hid (Bl.call HB.out b_)
 clear b_
 clear L4 SM_
 have cK40 := D_K4.out.cell 0
 have cK41 := D_K4.out.cell 1
 have cK42 := D_K4.out.cell 2
 have cK43 := D_K4.out.cell 3
 have cK44 := D_K4.out.cell 4
 have cK45 := D_K4.out.cell 5
 have cK46 := D_K4.out.cell 6
 have cK47 := D_K4.out.cell 7
 have cK48 := D_K4.out.cell 8
 have fK40 := D_K4.out.frozen 0
 have fK41 := D_K4.out.frozen 1
 have fK42 := D_K4.out.frozen 2
 have fK43 := D_K4.out.frozen 3
 have fK44 := D_K4.out.frozen 4
 have fK45 := D_K4.out.frozen 5
 have fK46 := D_K4.out.frozen 6
 have fK47 := D_K4.out.frozen 7
 have fK48 := D_K4.out.frozen 8
 obtain ⟨w6, hw6⟩ : ∃ W, W = (((((((((w5.setCell ⟨K4, 0, none⟩ (.int .i64 3)).setCell ⟨K4, 1, none⟩ (.int .i64 2)).setCell ⟨K4, 2, none⟩ (.int .i64 1)).setCell ⟨K4, 3, none⟩ (.slice A1 2 c1)).setCell ⟨K4, 4, none⟩ (.slice A2 1 c2)).setCell ⟨K4, 5, none⟩ (.slice A3 3 c3)).setCell ⟨K4, 6, none⟩ (.slice Aw 4 cw)).setCell ⟨K4, 7, none⟩ (.int .i64 4)).setCell ⟨K4, 8, none⟩ (.bool true)) := ⟨_, rfl⟩
 have E_K2 : Hid (Blk w6 K2 87 [.int .i64 3, .int .i64 2, .int .i64 1, .slice A1 2 c1, .slice A2 1 c2, .slice A3 3 c3, .slice Aw 4 cw, .int .i64 4, .bool true]) := hid (by rw [hw6]; exact (((((((((D_K2.out).far (p := ⟨K4, 0, none⟩) NE_K2_K4.out _).far (p := ⟨K4, 1, none⟩) NE_K2_K4.out _).far (p := ⟨K4, 2, none⟩) NE_K2_K4.out _).far (p := ⟨K4, 3, none⟩) NE_K2_K4.out _).far (p := ⟨K4, 4, none⟩) NE_K2_K4.out _).far (p := ⟨K4, 5, none⟩) NE_K2_K4.out _).far (p := ⟨K4, 6, none⟩) NE_K2_K4.out _).far (p := ⟨K4, 7, none⟩) NE_K2_K4.out _).far (p := ⟨K4, 8, none⟩) NE_K2_K4.out _)
 have E_K4 : Hid (Blk w6 K4 87 [.int .i64 3, .int .i64 2, .int .i64 1, .slice A1 2 c1, .slice A2 1 c2, .slice A3 3 c3, .slice Aw 4 cw, .int .i64 4, .bool true]) := hid (by rw [hw6]; exact (((((((((D_K4.out).put 0 _).put 1 _).put 2 _).put 3 _).put 4 _).put 5 _).put 6 _).put 7 _).put 8 _)
 have E_K12 : Hid (Blk w6 K12 124 [.int .i64 13, .int .u64 0, .int .u64 0, .string ⟨#[]⟩]) := hid (by rw [hw6]; exact (((((((((D_K12.out).far (p := ⟨K4, 0, none⟩) NE_K4_K12.out.symm _).far (p := ⟨K4, 1, none⟩) NE_K4_K12.out.symm _).far (p := ⟨K4, 2, none⟩) NE_K4_K12.out.symm _).far (p := ⟨K4, 3, none⟩) NE_K4_K12.out.symm _).far (p := ⟨K4, 4, none⟩) NE_K4_K12.out.symm _).far (p := ⟨K4, 5, none⟩) NE_K4_K12.out.symm _).far (p := ⟨K4, 6, none⟩) NE_K4_K12.out.symm _).far (p := ⟨K4, 7, none⟩) NE_K4_K12.out.symm _).far (p := ⟨K4, 8, none⟩) NE_K4_K12.out.symm _)
 have EB : Hid (Below w.heap.size w w6) := hid (by rw [hw6]; exact (((((((((HB.out).setCell (p := ⟨K4, 0, none⟩) LO_K4.out _).setCell (p := ⟨K4, 1, none⟩) LO_K4.out _).setCell (p := ⟨K4, 2, none⟩) LO_K4.out _).setCell (p := ⟨K4, 3, none⟩) LO_K4.out _).setCell (p := ⟨K4, 4, none⟩) LO_K4.out _).setCell (p := ⟨K4, 5, none⟩) LO_K4.out _).setCell (p := ⟨K4, 6, none⟩) LO_K4.out _).setCell (p := ⟨K4, 7, none⟩) LO_K4.out _).setCell (p := ⟨K4, 8, none⟩) LO_K4.out _)
 have HW_w6 := hid hw6
 clear hw6
 go_wp2
 rw [← HW_w6.out]
 clear cK40 cK41 cK42 cK43 cK44 cK45 cK46 cK47 cK48 fK40 fK41 fK42 fK43 fK44 fK45 fK46 fK47 fK48
 clear HB D_K2 D_K4 D_K12
 have D_K2 := E_K2
 have D_K4 := E_K4
 have D_K12 := E_K12
 have HB := EB
 clear EB E_K2 E_K4 E_K12
 have cK40 := D_K4.out.cell 0
 have cK41 := D_K4.out.cell 1
 have cK42 := D_K4.out.cell 2
 have cK43 := D_K4.out.cell 3
 have cK44 := D_K4.out.cell 4
 have cK45 := D_K4.out.cell 5
 have cK46 := D_K4.out.cell 6
 have cK47 := D_K4.out.cell 7
 have cK48 := D_K4.out.cell 8
 exact bodyPost_ret (v := .tuple #[.agg #[.int .i64 3, .int .i64 2, .int .i64 1, .slice A1 2 c1, .slice A2 1 c2, .slice A3 3 c3, .slice Aw 4 cw, .int .i64 4, .bool true], .string ⟨#[121, 101, 115]⟩]) (by simp [results, Tryz.results39, go_sem, cK40, cK41, cK42, cK43, cK44, cK45, cK46, cK47, cK48]) rfl ⟨rfl, HB.out⟩
set_option maxHeartbeats 16000000 in
set_option maxRecDepth 100000 in
theorem line_size (hm : SM w (.slice A1 2 c1) (.slice A2 1 c2) (.slice A3 3 c3) eA sA3) (hl : Sl w w.heap.size 1 (.slice Al 2 cl) 2 (strs (⟨#[115, 105, 122, 101]⟩ :: ([6] : List Nat).map dg))) : Calls Tryz.prog 39 #[.agg #[.int .i64 3, .int .i64 2, .int .i64 1, .slice A1 2 c1, .slice A2 1 c2, .slice A3 3 c3, .slice Aw 4 cw, .int .i64 4, .bool true], .slice Al 2 cl] w (LnAns A1 A2 A3 Aw c1 c2 c3 cw ⟨#[50]⟩ w) := by
 have SL := hid hl
 have HM := hid hm
 have SM_ := hid hm
 clear hl hm
 obtain ⟨w1, hw1⟩ : ∃ W, W = w.alloc (.cells #[.int .i64 3, .int .i64 2, .int .i64 1, .slice A1 2 c1, .slice A2 1 c2, .slice A3 3 c3, .slice Aw 4 cw, .int .i64 4, .bool true] 87) := ⟨_, rfl⟩
 obtain ⟨K2, hK2⟩ : ∃ K, K = w.heap.size := ⟨_, rfl⟩
 obtain ⟨w2, hw2⟩ : ∃ W, W = w1.alloc (.cells #[.int .i64 0, .int .i64 0, .int .i64 0, .slice none 0 0, .slice none 0 0, .slice none 0 0, .slice none 0 0, .int .i64 0, .bool false] 87) := ⟨_, rfl⟩
 obtain ⟨K4, hK4⟩ : ∃ K, K = K2 + 1 := ⟨_, rfl⟩
 have zw1 : w1.heap.size = K2 + 1 := by rw [hw1, hK2]; simp
 have zw2 : w2.heap.size = K2 + 2 := by rw [hw2]; simp; exact zw1
 have D_K2 : Hid (Blk w2 K2 87 [.int .i64 3, .int .i64 2, .int .i64 1, .slice A1 2 c1, .slice A2 1 c2, .slice A3 3 c3, .slice Aw 4 cw, .int .i64 4, .bool true]) := hid (by rw [hK2]; rw [hw2, hw1]; exact (Blk.new _ _ _).alloc _)
 have LO_K2 : Hid (w.heap.size ≤ K2) := hid (by omega)
 have D_K4 : Hid (Blk w2 K4 87 [.int .i64 0, .int .i64 0, .int .i64 0, .slice none 0 0, .slice none 0 0, .slice none 0 0, .slice none 0 0, .int .i64 0, .bool false]) := hid (by rw [show K4 = w1.heap.size by omega]; rw [hw2]; exact Blk.new _ _ _)
 have LO_K4 : Hid (w.heap.size ≤ K4) := hid (by omega)
 have NE_K2_K4 : Hid (K2 ≠ K4) := hid (by omega)
 have HB : Hid (Below w.heap.size w w2) := hid (by rw [hw2, hw1]; exact Bl.new (bel_new _ _) _)
 replace SL := hid (SL.out.call HB.out)
 replace SM_ := hid (SM_.out.call HB.out)
 have HW_w1 := hid hw1
 have HK_K2 := hid hK2
 have HW_w2 := hid hw2
 have HK_K4 := hid hK4
 clear hw1 hw2 hK2 hK4 zw1 zw2
 go_enter Tryz.func39, Tryz.ntmps39
 go_upto_region 1 with (fail)
 rw [← HW_w1.out, ← HK_K2.out, ← HK_K4.out, ← HW_w2.out]
 obtain ⟨_, _, he, hnc, _, _, hx⟩ := id SL.out
 injection he with e1 e2 e3
 subst e1 e3
 obtain ⟨b, o, rfl, hb, hc⟩ := hx (by omega)
 have x0 : w2.cell? ⟨b, o, none⟩ = some (.string ⟨#[115, 105, 122, 101]⟩) := hc 0 _ rfl
 clear hx hc hb
 have hdr : ∀ W, (Instr.slice 92 (.slice (some ⟨b, o, none⟩) 2 cl) (some (.int .i64 1)) none none).run Tryz.prog W = .ok (.slice (cutA (some ⟨b, o, none⟩) cl 1 1) 1 (cl - 1)) W := fun W => run_drop_of Tstrs (some ⟨b, o, none⟩) 2 cl 1 (by omega) W
 have SD : Hid (Sl w2 w2.heap.size 1 (.slice (cutA (some ⟨b, o, none⟩) cl 1 1) 1 (cl - 1)) 1 (strs (([6] : List Nat).map dg))) := hid (Sl.drop (k := 1) SL.out (by omega))
 clear SL
 go_wp2_with fail
 refine (cmd_size _).mono ?_; rintro e _ ⟨rfl, rfl⟩
 go_upto_region 11 with (fail)
 generalize cutA (some ⟨b, o, none⟩) cl 1 1 = AD at SD hdr
 generalize cl - 1 = cd at SD hdr
 go_wp2_with fail
 have HBk := hid HB.out.size
 refine (numsL (ds := [6]) 1 rfl (by intro d hd; simp at hd; unfold IsDg; omega) (by simp) SD.out).mono ?_; rintro e w3 ⟨Ag, cg, rfl, SG_, b_⟩
 clear x0
 replace D_K2 := hid (D_K2.out.on b_)
 replace D_K4 := hid (D_K4.out.on b_)
 replace SD := hid (SD.out.call b_)
 replace SM_ := hid (SM_.out.call b_)
 replace HB := hid (Bl.call HB.out b_)
 have SG := hid SG_
 clear SG_
 clear b_
 clear SD hdr hnc
 go_upto_region 16 with (fail)
 obtain ⟨_, _, he, _, _, _, hx⟩ := id SG.out
 injection he with e1 e2 e3
 subst e1 e3
 obtain ⟨bg, og, rfl, hbg, hcg⟩ := hx (by omega)
 have X0 : Hid (w3.cell? ⟨bg, og, none⟩ = some (.int .u64 6)) := hid (hcg 0 _ rfl)
 have HBG : Hid (bg < w3.heap.size) := hid hbg
 clear hx hcg hbg
 clear SG
 go_upto_region 17 with (fail)
 obtain ⟨w4, hw4⟩ : ∃ W, W = w3.alloc (.cells #[.int .i64 9, .int .u64 0, .int .u64 0, .string ⟨#[]⟩] 124) := ⟨_, rfl⟩
 obtain ⟨K12, hK12⟩ : ∃ K, K = w3.heap.size := ⟨_, rfl⟩
 have b_ := bel_new w3 (.cells #[.int .i64 9, .int .u64 0, .int .u64 0, .string ⟨#[]⟩] 124)
 rw [← hw4] at b_
 have D_K12 : Hid (Blk w4 K12 124 [.int .i64 9, .int .u64 0, .int .u64 0, .string ⟨#[]⟩]) := hid (by rw [hw4, hK12]; exact Blk.new _ _ _)
 have LO_K12 : Hid (w.heap.size ≤ K12) := hid (by rw [hK12]; exact HB.out.size)
 have NE_K2_K12 : Hid (K2 ≠ K12) := hid (by have := D_K2.out.lt; rw [hK12]; omega)
 have NE_K4_K12 : Hid (K4 ≠ K12) := hid (by have := D_K4.out.lt; rw [hK12]; omega)
 replace D_K2 := hid (D_K2.out.on b_)
 replace D_K4 := hid (D_K4.out.on b_)
 replace SM_ := hid (SM_.out.call b_)
 replace HB := hid (Bl.call HB.out b_)
 rw [← hw4, ← hK12]
 have HW_w4 := hid hw4
 have HK_K12 := hid hK12
 clear b_ hw4 hK12
 have NBG : Hid (bg ≠ K12) := hid (by have := HK_K12.out; have := HBG.out; omega)
 replace X0 : Hid (w4.cell? ⟨bg, og, none⟩ = some (.int .u64 6)) := hid (by rw [HW_w4.out]; exact cell_later (bel_new _ _) X0.out)
 have x := X0.out
 have cK120 := D_K12.out.cell 0
 have cK121 := D_K12.out.cell 1
 have cK122 := D_K12.out.cell 2
 have cK123 := D_K12.out.cell 3
 have fK120 := D_K12.out.frozen 0
 have fK121 := D_K12.out.frozen 1
 have fK122 := D_K12.out.frozen 2
 have fK123 := D_K12.out.frozen 3
 obtain ⟨w5, hw5⟩ : ∃ W, W = (w4.setCell ⟨K12, 1, none⟩ (.int .u64 6)) := ⟨_, rfl⟩
 have E_K2 : Hid (Blk w5 K2 87 [.int .i64 3, .int .i64 2, .int .i64 1, .slice A1 2 c1, .slice A2 1 c2, .slice A3 3 c3, .slice Aw 4 cw, .int .i64 4, .bool true]) := hid (by rw [hw5]; exact (D_K2.out).far (p := ⟨K12, 1, none⟩) NE_K2_K12.out _)
 have E_K4 : Hid (Blk w5 K4 87 [.int .i64 0, .int .i64 0, .int .i64 0, .slice none 0 0, .slice none 0 0, .slice none 0 0, .slice none 0 0, .int .i64 0, .bool false]) := hid (by rw [hw5]; exact (D_K4.out).far (p := ⟨K12, 1, none⟩) NE_K4_K12.out _)
 have E_K12 : Hid (Blk w5 K12 124 [.int .i64 9, .int .u64 6, .int .u64 0, .string ⟨#[]⟩]) := hid (by rw [hw5]; exact (D_K12.out).put 1 _)
 have EB : Hid (Below w.heap.size w w5) := hid (by rw [hw5]; exact (HB.out).setCell (p := ⟨K12, 1, none⟩) LO_K12.out _)
 have E_SM_ : Hid (SM w5 (.slice A1 2 c1) (.slice A2 1 c2) (.slice A3 3 c3) eA sA3) := hid (by rw [hw5]; exact HM.out.call (HB.out.setCell (p := ⟨K12, _, none⟩) LO_K12.out _))
 have HW_w5 := hid hw5
 clear hw5
 go_upto_region 19 with (fail)
 rw [← HW_w5.out]
 clear x cK120 cK121 cK122 cK123 fK120 fK121 fK122 fK123
 clear HB D_K2 D_K4 D_K12 SM_
 have D_K2 := E_K2
 have D_K4 := E_K4
 have D_K12 := E_K12
 have HB := EB
 have SM_ := E_SM_
 clear EB E_K2 E_K4 E_K12 E_SM_
 go_upto_region 21 with (fail)
 have cK20 := D_K2.out.cell 0
 have cK21 := D_K2.out.cell 1
 have cK22 := D_K2.out.cell 2
 have cK23 := D_K2.out.cell 3
 have cK24 := D_K2.out.cell 4
 have cK25 := D_K2.out.cell 5
 have cK26 := D_K2.out.cell 6
 have cK27 := D_K2.out.cell 7
 have cK28 := D_K2.out.cell 8
 have cK120 := D_K12.out.cell 0
 have cK121 := D_K12.out.cell 1
 have cK122 := D_K12.out.cell 2
 have cK123 := D_K12.out.cell 3
 have L4 : Hid (K4 < w5.heap.size) := hid D_K4.out.lt
 go_wp2_with fail
 replace HBk := hid HB.out.size
 refine (done_size SM_.out).mono ?_; rintro e w6 ⟨rfl, b_⟩
 clear cK20 cK21 cK22 cK23 cK24 cK25 cK26 cK27 cK28 cK120 cK121 cK122 cK123
 replace D_K2 := hid (D_K2.out.on b_)
 replace D_K4 := hid (D_K4.out.on b_)
 replace D_K12 := hid (D_K12.out.on b_)
 replace SM_ := hid (SM_.out.call b_)
 replace HB := hid (Bl.call HB.out b_)
 clear b_
 clear L4 SM_
 have cK40 := D_K4.out.cell 0
 have cK41 := D_K4.out.cell 1
 have cK42 := D_K4.out.cell 2
 have cK43 := D_K4.out.cell 3
 have cK44 := D_K4.out.cell 4
 have cK45 := D_K4.out.cell 5
 have cK46 := D_K4.out.cell 6
 have cK47 := D_K4.out.cell 7
 have cK48 := D_K4.out.cell 8
 have fK40 := D_K4.out.frozen 0
 have fK41 := D_K4.out.frozen 1
 have fK42 := D_K4.out.frozen 2
 have fK43 := D_K4.out.frozen 3
 have fK44 := D_K4.out.frozen 4
 have fK45 := D_K4.out.frozen 5
 have fK46 := D_K4.out.frozen 6
 have fK47 := D_K4.out.frozen 7
 have fK48 := D_K4.out.frozen 8
 obtain ⟨w7, hw7⟩ : ∃ W, W = (((((((((w6.setCell ⟨K4, 0, none⟩ (.int .i64 3)).setCell ⟨K4, 1, none⟩ (.int .i64 2)).setCell ⟨K4, 2, none⟩ (.int .i64 1)).setCell ⟨K4, 3, none⟩ (.slice A1 2 c1)).setCell ⟨K4, 4, none⟩ (.slice A2 1 c2)).setCell ⟨K4, 5, none⟩ (.slice A3 3 c3)).setCell ⟨K4, 6, none⟩ (.slice Aw 4 cw)).setCell ⟨K4, 7, none⟩ (.int .i64 4)).setCell ⟨K4, 8, none⟩ (.bool true)) := ⟨_, rfl⟩
 have E_K2 : Hid (Blk w7 K2 87 [.int .i64 3, .int .i64 2, .int .i64 1, .slice A1 2 c1, .slice A2 1 c2, .slice A3 3 c3, .slice Aw 4 cw, .int .i64 4, .bool true]) := hid (by rw [hw7]; exact (((((((((D_K2.out).far (p := ⟨K4, 0, none⟩) NE_K2_K4.out _).far (p := ⟨K4, 1, none⟩) NE_K2_K4.out _).far (p := ⟨K4, 2, none⟩) NE_K2_K4.out _).far (p := ⟨K4, 3, none⟩) NE_K2_K4.out _).far (p := ⟨K4, 4, none⟩) NE_K2_K4.out _).far (p := ⟨K4, 5, none⟩) NE_K2_K4.out _).far (p := ⟨K4, 6, none⟩) NE_K2_K4.out _).far (p := ⟨K4, 7, none⟩) NE_K2_K4.out _).far (p := ⟨K4, 8, none⟩) NE_K2_K4.out _)
 have E_K4 : Hid (Blk w7 K4 87 [.int .i64 3, .int .i64 2, .int .i64 1, .slice A1 2 c1, .slice A2 1 c2, .slice A3 3 c3, .slice Aw 4 cw, .int .i64 4, .bool true]) := hid (by rw [hw7]; exact (((((((((D_K4.out).put 0 _).put 1 _).put 2 _).put 3 _).put 4 _).put 5 _).put 6 _).put 7 _).put 8 _)
 have E_K12 : Hid (Blk w7 K12 124 [.int .i64 9, .int .u64 6, .int .u64 0, .string ⟨#[]⟩]) := hid (by rw [hw7]; exact (((((((((D_K12.out).far (p := ⟨K4, 0, none⟩) NE_K4_K12.out.symm _).far (p := ⟨K4, 1, none⟩) NE_K4_K12.out.symm _).far (p := ⟨K4, 2, none⟩) NE_K4_K12.out.symm _).far (p := ⟨K4, 3, none⟩) NE_K4_K12.out.symm _).far (p := ⟨K4, 4, none⟩) NE_K4_K12.out.symm _).far (p := ⟨K4, 5, none⟩) NE_K4_K12.out.symm _).far (p := ⟨K4, 6, none⟩) NE_K4_K12.out.symm _).far (p := ⟨K4, 7, none⟩) NE_K4_K12.out.symm _).far (p := ⟨K4, 8, none⟩) NE_K4_K12.out.symm _)
 have EB : Hid (Below w.heap.size w w7) := hid (by rw [hw7]; exact (((((((((HB.out).setCell (p := ⟨K4, 0, none⟩) LO_K4.out _).setCell (p := ⟨K4, 1, none⟩) LO_K4.out _).setCell (p := ⟨K4, 2, none⟩) LO_K4.out _).setCell (p := ⟨K4, 3, none⟩) LO_K4.out _).setCell (p := ⟨K4, 4, none⟩) LO_K4.out _).setCell (p := ⟨K4, 5, none⟩) LO_K4.out _).setCell (p := ⟨K4, 6, none⟩) LO_K4.out _).setCell (p := ⟨K4, 7, none⟩) LO_K4.out _).setCell (p := ⟨K4, 8, none⟩) LO_K4.out _)
 have HW_w7 := hid hw7
 clear hw7
 go_wp2
 rw [← HW_w7.out]
 clear cK40 cK41 cK42 cK43 cK44 cK45 cK46 cK47 cK48 fK40 fK41 fK42 fK43 fK44 fK45 fK46 fK47 fK48
 clear HB D_K2 D_K4 D_K12
 have D_K2 := E_K2
 have D_K4 := E_K4
 have D_K12 := E_K12
 have HB := EB
 clear EB E_K2 E_K4 E_K12
 have cK40 := D_K4.out.cell 0
 have cK41 := D_K4.out.cell 1
 have cK42 := D_K4.out.cell 2
 have cK43 := D_K4.out.cell 3
 have cK44 := D_K4.out.cell 4
 have cK45 := D_K4.out.cell 5
 have cK46 := D_K4.out.cell 6
 have cK47 := D_K4.out.cell 7
 have cK48 := D_K4.out.cell 8
 exact bodyPost_ret (v := .tuple #[.agg #[.int .i64 3, .int .i64 2, .int .i64 1, .slice A1 2 c1, .slice A2 1 c2, .slice A3 3 c3, .slice Aw 4 cw, .int .i64 4, .bool true], .string ⟨#[50]⟩]) (by simp [results, Tryz.results39, go_sem, cK40, cK41, cK42, cK43, cK44, cK45, cK46, cK47, cK48]) rfl ⟨rfl, HB.out⟩
end Go.Proofs.YtahodfikhocobaaGreatDoor
namespace Go.Proofs.YtahodfikhocobaaGreatDoor
open Go.RowKit
set_option linter.unusedVariables false
set_option linter.unusedSimpArgs false
attribute [local go_sem ↓] Go.wp_at_zero Go.wp_at_succ
theorem b_size : ∃ j, Tryz.prog.info? 91 = some j ∧ j.size = 2 := by
 have h : (Tryz.prog.info? 91).map (·.size) = some 2 := by kernel_rfl
 exact Option.map_eq_some_iff.1 h
set_option maxHeartbeats 1000000 in
set_option maxRecDepth 100000 in
theorem cc_used {B : Nat} {v : Value} {w : World} (h : Blk w B 91 [.pointer (some ⟨B, 0, none⟩), v]) : Calls Tryz.prog 68 #[.pointer (some ⟨B, 0, none⟩)] w fun e w' => e = .returned (.tuple #[]) ∧ w = w' := by
 obtain ⟨j, hj, -⟩ := b_size
 have h0 := h.cell 0
 clear h
 go_enter Tryz.func68, Tryz.ntmps68
 go_wp2
 rw [Lib.run_neq_ptr_same w _ Tryz.underlying88 hj]
 go_wp2
 go_end0
 exact ⟨rfl, rfl⟩
set_option maxHeartbeats 1000000 in
set_option maxRecDepth 100000 in
theorem cc_fresh {B : Nat} {v : Value} {w : World} (h : Blk w B 91 [.pointer none, v]) : Calls Tryz.prog 68 #[.pointer (some ⟨B, 0, none⟩)] w fun e w' => e = .returned (.tuple #[]) ∧ w' = w.setCell ⟨B, 0, none⟩ (.pointer (some ⟨B, 0, none⟩)) := by
 obtain ⟨j, hj, hjs⟩ := b_size
 have h0 := h.cell 0
 have hfz := h.frozen 0
 have hsh : w.shape? B = some (91, 2) := by unfold World.shape?; rw [show w.heap[B]? = _ from h]; rfl
 have hlies : Go.liesAt Tryz.prog Tryz.prog.depth 91 (2 / Tryz.prog.cellsOf 91) 0 91 1 = true := by kernel_rfl
 clear h
 go_enter Tryz.func68, Tryz.ntmps68
 go_wp2
 rw [Lib.run_to_unsafe w ⟨B, 0, none⟩ Tryz.underlying88 Tryz.underlying158 hj (by rw [hjs]; decide) hsh (Nat.zero_lt_succ 1)]
 simp only [Result.andThen]
 rw [Oper.upon_value]
 go_wp2
 rw [run_callFunc_extern Tryz.func92 (by kernel_rfl) (by kernel_rfl) (by kernel_rfl) (e := Extern.AbiNoEscape.same) (by kernel_rfl)]
 rw [Lib.run_noEscape]
 simp only [Result.andThen]
 rw [Oper.upon_value]
 go_wp2
 rw [Lib.run_from_unsafe w ⟨B, 0, none⟩ Tryz.underlying158 Tryz.underlying88 hj hsh hlies]
 simp only [Result.andThen]
 rw [Oper.upon_value]
 go_wp2
 go_end0
 exact ⟨rfl, rfl⟩
theorem byte_info : ∃ i, Tryz.prog.info? 5 = some i ∧ i.zero = some (.int .u8 0) ∧ i.size = 1 ∧ i.bytes = 1 := info_parts (by kernel_rfl)
set_option maxRecDepth 100000 in
theorem run_append_strG (w : World) (base : Nat) (ty : TypeId) (v : Value) (n : Nat) (xs : List Value) (hown : w.ownsRow base 5 1 v n xs) (s : ByteArray)
  (h63 : n + s.size ≤ maxLen) (hbytes : n + s.size ≤ 140737488355328) (hbase : base ≤ w.heap.size) :
  ∃ v' w', (Builtin.append_ #[89, 9] ty #[v, .string s]).run Tryz.prog w = .ok v' w' ∧ w'.ownsRow base 5 1 v' (n + s.size) (xs ++ Lib.strCells s) ∧ GGrw w w' v v' := by
 obtain ⟨i, hi, hz, hs1, hb1⟩ := byte_info
 have hu : Tryz.prog.underlying 9 = some .string := Tryz.underlying9
 obtain ⟨v', w', hr, h2, h3, h4⟩ := Lib.run_append_own_string (P := Tryz.prog) w base 89 9 ty 5 i Tryz.underlying89 hu hi hz hs1 hb1 v n xs hown s h63 hbytes hbase
 refine ⟨v', w', hr, h2, h3, ?_⟩
 have hsmall : n + s.size ≤ 9223372036854775807 := by simp only [maxLen] at h63; omega
 have hxl : xs.length = n := by simpa using hown.1
 rcases hown.2 with ⟨rfl, rfl⟩ | ⟨g, cap, cur, rfl, hbg, hg, hnc, hcm, hcs, htake⟩
 ·
  by_cases hm : s.size = 0
  · left; rw [h4.2 ⟨rfl, hm⟩]
  ·
   right
   have hr2 := run_append_nil_string (P := Tryz.prog) w 89 9 ty 5 i (.int .u8 0) Tryz.underlying89 hu hi hz s (by omega) (by omega) (by rw [hb1]; omega)
   rw [hr2] at hr
   injection hr with hv hw
   intro g hg
   rw [← hv] at hg
   simp [Value.ownBlock] at hg
   omega
 ·
  by_cases hroom : n + s.size ≤ cap
  ·
   left
   have hr2 := Lib.run_append_room_string (P := Tryz.prog) w 89 9 ty 5 i Tryz.underlying89 hu hi hs1 g n cap cur hg s hroom (by omega)
   rw [hr2] at hr
   injection hr with hv hw
   rw [← hv]; rfl
  ·
   right
   have holds : ∀ j u, xs[j]? = some u → w.cell? ((⟨g, 0, none⟩ : Addr).add j) = some u := hown.cells (g := g) rfl
   have hr2 := Lib.run_append_grow_string (P := Tryz.prog) w 89 9 ty 5 i (.int .u8 0) Tryz.underlying89 hu hi hz ⟨g, 0, none⟩ n cap xs (by rw [hs1]; simpa using hxl) holds s (by omega) (by omega) (by rw [hb1]; exact growslice_fits (by omega) (by omega))
   rw [hr2] at hr
   injection hr with hv hw
   intro g' hg'
   rw [← hv] at hg'
   simp [Value.ownBlock] at hg'
   omega
theorem wl_appS {ops : Array Oper} {rest : List Oper} {o : Oper} {a : Act} {Q : Exit → Act → World → Prop} {w : World} (hgd : o.guard = none) (sl x : Operand) (ho : o.op = .call { callee := .builtin .append, args := #[sl, x], argTypes := #[89, 9] })
  {base : Nat} {v : Value} {n : Nat} {xs : List Value} (hs : a.eval sl = v) (hown : w.ownsRow base 5 1 v n xs) {s : ByteArray} (hx : a.eval x = .string s) (hb : n + s.size ≤ 100000) (hbase : base ≤ w.heap.size)
  (h : ∀ v' w', w'.ownsRow base 5 1 v' (n + s.size) (xs ++ Lib.strCells s) → GGrw w w' v v' → wpList Tryz.prog ops Q rest (a.put o.dst v') w') : wpList Tryz.prog ops Q (o :: rest) a w := by
 refine wpList_plain hgd fun K hK => ?_
 obtain ⟨v', w', hr, h2, h3⟩ := run_append_strG w base o.type v n xs hown s (by unfold maxLen; omega) (by omega) hbase
 unfold Oper.wp execOp
 simp only [ho, resolve, invoke, builtin, Sem.run_bind, Sem.run_pure, Result.andThen_ok, List.map_toArray, List.map_cons, List.map_nil, hs, hx, hr]
 exact hK _ _ (h v' w' h2 h3)
structure Wrote (B : Nat) (w w' : World) (vb vb' : Value) : Prop where
  below : Below B w w'
  block : ∀ K, K < w.heap.size → K ≠ B → vb.ownBlock ≠ some K → w'.heap[K]? = w.heap[K]?
  own : vb'.ownBlock = vb.ownBlock ∨ ∀ g, vb'.ownBlock = some g → w.heap.size ≤ g
theorem Wrote.trans {B : Nat} {w w1 w2 : World} {v0 v1 v2 : Value} (h : Wrote B w w1 v0 v1) (h' : Wrote B w1 w2 v1 v2) : Wrote B w w2 v0 v2 := by
 have hs := h.below.size
 refine ⟨h.below.trans h'.below, fun K hK hB hv => ?_, ?_⟩
 ·
  have hv1 : v1.ownBlock ≠ some K := by
   rcases h.own with e | e
   · rw [e]; exact hv
   · intro e2; have := e K e2; omega
  rw [h'.block K (by omega) hB hv1, h.block K hK hB hv]
 ·
  rcases h'.own with e | e
  · rw [e]; exact h.own
  · exact .inr fun g hg => by have := e g hg; omega
def Clear (B : Nat) (vb v : Value) : Prop := Off B v ∧ ∀ g, vb.ownBlock = some g → Off g v
theorem Sl.wrote {B : Nat} {w w' : World} {vb vb' v : Value} {sz n : Nat} {xs : List Value} (h : Sl w w.heap.size sz v n xs) (hw : Wrote B w w' vb vb') (hc : Clear B vb v) : Sl w' w'.heap.size sz v n xs ∧ Clear B vb' v := by
 refine ⟨?_, hc.1, fun g hg => ?_⟩
 ·
  obtain ⟨A, c, hv, hn, hcm, hl, hx⟩ := h
  refine ⟨A, c, hv, hn, hcm, hl, fun h0 => ?_⟩
  obtain ⟨b, o, hA, hb, hcell⟩ := hx h0
  have h1 : b ≠ B := hc.1 b o n c (by rw [hv, hA]) h0
  have h2 : vb.ownBlock ≠ some b := fun e => hc.2 b e b o n c (by rw [hv, hA]) h0 rfl
  refine ⟨b, o, hA, Nat.lt_of_lt_of_le hb hw.below.size, fun j u hu => ?_⟩
  rw [World.cell?_of_block (hw.block b hb h1 h2)]
  exact hcell j u hu
 ·
  rcases hw.own with e | e
  · exact hc.2 g (by rw [← e]; exact hg)
  · exact h.isOff (e g hg)
def WrPost (B : Nat) (r vb : Value) (n : Nat) (xs : List Value) (w : World) (e : Ending) (w' : World) : Prop :=
 ∃ vb', e = .returned r ∧ Blk w' B 91 [.pointer (some ⟨B, 0, none⟩), vb'] ∧ w'.ownsRow (B + 1) 5 1 vb' n xs ∧ Wrote B w w' vb vb'
theorem aown_ne {w : World} {B : Nat} {e : TypeId} {sz n : Nat} {v : Value} {xs : List Value} (h : w.ownsRow (B + 1) e sz v n xs) : v.ownBlock ≠ some B := by
 intro hb
 obtain ⟨h1, _⟩ := own_hp h B hb
 omega
theorem wrote_put {B : Nat} {w w2 : World} {vb v2 : Value} {n m : Nat} {xs ys : List Value} (hb : Blk w B 91 [.pointer (some ⟨B, 0, none⟩), vb]) (ho : w.ownsRow (B + 1) 5 1 vb n xs) (h2 : w2.ownsRow (B + 1) 5 1 v2 m ys) (hg : GGrw w w2 vb v2) :
  Blk (w2.setCell ⟨B, 1, none⟩ v2) B 91 [.pointer (some ⟨B, 0, none⟩), v2] ∧ (w2.setCell ⟨B, 1, none⟩ v2).ownsRow (B + 1) 5 1 v2 m ys ∧ Wrote B w (w2.setCell ⟨B, 1, none⟩ v2) vb v2 := by
 have d2 := hg.blk hb (Ne.symm (aown_ne ho))
 refine ⟨d2.put 1 v2, own_keep h2 fun b hbb => Below.heap_setCell w2 ⟨B, 1, none⟩ v2 b (fun e => aown_ne h2 (by rw [hbb, e])), ?_, fun K hK hB hv => ?_, hg.2⟩
 · exact ((GGrw.below hg ho hb.lt).mono (Nat.le_succ B)).setCell (p := ⟨B, 1, none⟩) (Nat.le_refl B) v2
 ·
  rw [Below.heap_setCell w2 ⟨B, 1, none⟩ v2 K hB]
  exact hg.1.block K hK (fun e => hv e.symm)
theorem wrote_fresh {B : Nat} {w : World} {p q vb : Value} (hb : Blk w B 91 [p, vb]) : Wrote B w (w.setCell ⟨B, 0, none⟩ q) vb vb :=
 ⟨(Below.refl _ _).setCell (p := ⟨B, 0, none⟩) (Nat.le_refl _) _, fun K _ hB _ => Below.heap_setCell w ⟨B, 0, none⟩ q K hB, .inl rfl⟩
set_option maxHeartbeats 4000000 in
set_option maxRecDepth 100000 in
theorem wstr_used {B n : Nat} {vb : Value} {xs : List Value} {s : ByteArray} {w : World} (hb : Blk w B 91 [.pointer (some ⟨B, 0, none⟩), vb]) (ho : w.ownsRow (B + 1) 5 1 vb n xs) (hn : n + s.size ≤ 10000) :
  Calls Tryz.prog 40 #[.pointer (some ⟨B, 0, none⟩), .string s] w (WrPost B (.tuple #[.int .i64 (s.size : Int), .nilIface]) vb (n + s.size) (xs ++ Lib.strCells s) w) := by
 obtain ⟨A, m, c, rfl⟩ := aown_lit ho
 have HB := hid hb
 have HO := hid ho
 have hlt := hb.lt
 clear ho hb
 go_enter Tryz.func40, Tryz.ntmps40
 go_wp2_with fail
 refine (cc_used HB.out).mono ?_; rintro e _ ⟨rfl, rfl⟩
 have c1 := HB.out.cell 1
 go_wp2_with (at_builtin; refine wl_appS rfl _ _ rfl rfl HO.out rfl (by omega) (by omega) ?_)
 intro v2 w2 h2 hg
 obtain ⟨A2, m2, c2, rfl⟩ := aown_lit h2
 have HF := hid (wrote_put HB.out HO.out h2 hg)
 have D2 := hg.blk HB.out (Ne.symm (aown_ne HO.out))
 have d1 := D2.cell 1
 have f1 := D2.frozen 1
 clear h2 hg D2 c1
 go_wp2
 go_ret2
 exact ⟨_, rfl, HF.out.1, HF.out.2.1, HF.out.2.2⟩
set_option maxHeartbeats 4000000 in
set_option maxRecDepth 100000 in
theorem wstr_fresh {B : Nat} {s : ByteArray} {w : World} (hb : Blk w B 91 [.pointer none, .slice none 0 0]) (hn : s.size ≤ 10000) :
  Calls Tryz.prog 40 #[.pointer (some ⟨B, 0, none⟩), .string s] w (WrPost B (.tuple #[.int .i64 (s.size : Int), .nilIface]) (.slice none 0 0) (s.size) (Lib.strCells s) w) := by
 have HW := hid (wrote_fresh (q := .pointer (some ⟨B, 0, none⟩)) hb)
 obtain ⟨w1, hw1⟩ : ∃ W, W = w.setCell ⟨B, 0, none⟩ (.pointer (some ⟨B, 0, none⟩)) := ⟨_, rfl⟩
 have HB : Hid (Blk w1 B 91 [.pointer (some ⟨B, 0, none⟩), .slice none 0 0]) := hid (by rw [hw1]; exact hb.put 0 _)
 have HO : Hid (w1.ownsRow (B + 1) 5 1 (.slice none 0 0) 0 []) := hid (World.ownsRow_nil _ _ _ _)
 have hlt := HB.out.lt
 have H0 := hid hb
 rw [← hw1] at HW
 have HW1 := hid hw1
 clear hb hw1
 go_enter Tryz.func40, Tryz.ntmps40
 go_wp2_with fail
 refine (cc_fresh H0.out).mono ?_; rintro e _ ⟨rfl, rfl⟩
 rw [← HW1.out]
 have c1 := HB.out.cell 1
 go_wp2_with (at_builtin; refine wl_appS rfl _ _ rfl rfl HO.out rfl (by omega) (by omega) ?_)
 intro v2 w2 h2 hg
 obtain ⟨A2, m2, c2, rfl⟩ := aown_lit h2
 have HF := hid (wrote_put HB.out HO.out h2 hg)
 have D2 := hg.blk HB.out (Ne.symm (aown_ne HO.out))
 have d1 := D2.cell 1
 have f1 := D2.frozen 1
 clear h2 hg D2 c1
 go_wp2
 go_ret2
 exact ⟨_, rfl, HF.out.1, HF.out.2.1, HW.out.trans HF.out.2.2⟩
set_option maxHeartbeats 4000000 in
set_option maxRecDepth 100000 in
theorem wbyte_ok {B n : Nat} {vb : Value} {xs : List Value} {w : World} (hb : Blk w B 91 [.pointer (some ⟨B, 0, none⟩), vb]) (ho : w.ownsRow (B + 1) 5 1 vb n xs) (hn : n ≤ 10000) :
  Calls Tryz.prog 41 #[.pointer (some ⟨B, 0, none⟩), .int .u8 10] w (WrPost B .nilIface vb (n + 1) (xs ++ [.int .u8 10]) w) := by
 obtain ⟨A, m, c, rfl⟩ := aown_lit ho
 have HB := hid hb
 have HO := hid ho
 have hlt := hb.lt
 clear ho hb
 go_enter Tryz.func41, Tryz.ntmps41
 go_wp2_with fail
 refine (cc_used HB.out).mono ?_; rintro e _ ⟨rfl, rfl⟩
 have c1 := HB.out.cell 1
 go_wp2_with (at_builtin; refine wl_app1G rfl _ _ Tbys rfl (news := [.int .u8 10]) rfl HO.out rfl rfl (by intro u hu; simp at hu; subst hu; rfl) (by omega) (by omega) ?_)
 intro v2 w2 h2 hg
 obtain ⟨A2, m2, c2, rfl⟩ := aown_lit h2
 have HF := hid (wrote_put (HB.out.alloc (.cells #[.int .u8 10] 5)) (HO.out.alloc _) h2 hg)
 have D2 := hg.blk (HB.out.alloc (.cells #[.int .u8 10] 5)) (Ne.symm (aown_ne HO.out))
 have d1 := D2.cell 1
 have f1 := D2.frozen 1
 clear h2 hg D2 c1
 go_wp2
 go_ret
 refine ⟨_, rfl, HF.out.1, HF.out.2.1, ⟨((Below.refl _ _).alloc (by omega) _).trans HF.out.2.2.below, fun K hK hB hv => ?_, ?_⟩⟩
 ·
  rw [HF.out.2.2.block K (by simp; omega) hB hv]
  exact Below.heap_alloc _ _ _ hK
 ·
  rcases HF.out.2.2.own with e | e
  · exact .inl e
  · exact .inr fun g hg => by have := e g hg; simp at this; omega
set_option maxHeartbeats 4000000 in
set_option maxRecDepth 100000 in
theorem bstring_ok {B : Nat} {vb : Value} {l : List UInt8} {w : World} (h0 : l ≠ []) (hn : l.length ≤ 10000) (hb : Blk w B 91 [.pointer (some ⟨B, 0, none⟩), vb]) (ho : w.ownsRow (B + 1) 5 1 vb l.length (Lib.byteCells l)) :
  Calls Tryz.prog 42 #[.pointer (some ⟨B, 0, none⟩)] w fun e w' => e = .returned (.string ⟨l.toArray⟩) ∧ Below B w w' := by
 have hl0 : l.length ≠ 0 := by simpa using h0
 obtain ⟨g, cap, cur, rfl, hbg, hg, hnc, hcm, hcs, htake⟩ : ∃ g cap cur, vb = .slice (some ⟨g, 0, none⟩) l.length cap ∧ B + 1 ≤ g ∧ w.heap[g]? = some (.cells cur 5 (0, 0)) ∧ l.length ≤ cap ∧ cap ≤ maxLen ∧ cur.size = cap * 1 ∧ cur.toList.take (l.length * 1) = Lib.byteCells l := by
  rcases ho.2 with ⟨_, hz⟩ | h
  · exact absurd hz hl0
  · exact h
 have c1 : w.drew.cell? ⟨B, 1, none⟩ = some (.slice (some ⟨g, 0, none⟩) l.length cap) := hb.cell 1
 have hSD : (Builtin.unsafeSliceData_ #[89] 128 #[.slice (some ⟨g, 0, none⟩) l.length cap]).run Tryz.prog w.drew = .ok (.pointer (some ⟨g, 0, none⟩)) w.drew :=
  Lib.run_unsafeSliceData_row _ _ _ _ _ _ (by omega)
 have hUS : (Builtin.unsafeString_ #[128, 3] 9 #[.pointer (some ⟨g, 0, none⟩), .int .i64 l.length]).run Tryz.prog w.drew = .ok (.string ⟨l.toArray⟩) (w.drew.freeze ⟨g, 0, none⟩ l.length) := by
  refine Lib.run_unsafeString_row w.drew 128 3 9 5 Tryz.underlying128 (by kernel_rfl) g cur.size (by have hg' : w.drew.heap[g]? = some (.cells cur 5 (0, 0)) := hg; simp [World.shape?, hg']) l h0 (by omega) (by omega) ?_
  intro j x hx
  have := ho.cells (g := g) rfl j (.int .u8 x.toNat) (by simp [Lib.byteCells, hx])
  exact this
 have HBL : Hid (Below B w (w.drew.freeze ⟨g, 0, none⟩ l.length)) := hid (Lib.below_freeze (Below.drew (Below.refl B w)) (p := ⟨g, 0, none⟩) (show B ≤ g by omega) _)
 clear htake hcs ho hb
 go_enter Tryz.func42, Tryz.ntmps42
 go_wp2
 go_region
 all_goals (go_wp2; go_ret; exact ⟨rfl, HBL.out⟩)
def put9 (w : World) (K : Nat) (a b c d e f g h i : Value) : World := ((((((((w.setCell ⟨K, 0, none⟩ a).setCell ⟨K, 1, none⟩ b).setCell ⟨K, 2, none⟩ c).setCell ⟨K, 3, none⟩ d).setCell ⟨K, 4, none⟩ e).setCell ⟨K, 5, none⟩ f).setCell ⟨K, 6, none⟩ g).setCell ⟨K, 7, none⟩ h).setCell ⟨K, 8, none⟩ i
section
variable {w w' : World} {K B n2 n3 : Nat} {a b c d e f g h i : Value} {vb vb' : Value} {es : List (Int × Int × Int)} {ss : List (Bool × Int)}
theorem put9_blk {T : TypeId} {o0 o1 o2 o3 o4 o5 o6 o7 o8 : Value} (hb : Blk w K T [o0, o1, o2, o3, o4, o5, o6, o7, o8]) : Blk (put9 w K a b c d e f g h i) K T [a, b, c, d, e, f, g, h, i] :=
 ((((((((hb.put 0 a).put 1 b).put 2 c).put 3 d).put 4 e).put 5 f).put 6 g).put 7 h).put 8 i
theorem put9_far {k : Nat} {T : TypeId} {cs : List Value} (hb : Blk w k T cs) (hne : k ≠ K) : Blk (put9 w K a b c d e f g h i) k T cs :=
 ((((((((hb.far (p := ⟨K, 0, none⟩) hne _).far (p := ⟨K, 1, none⟩) hne _).far (p := ⟨K, 2, none⟩) hne _).far (p := ⟨K, 3, none⟩) hne _).far (p := ⟨K, 4, none⟩) hne _).far (p := ⟨K, 5, none⟩) hne _).far (p := ⟨K, 6, none⟩) hne _).far (p := ⟨K, 7, none⟩) hne _).far (p := ⟨K, 8, none⟩) hne _
theorem put9_heap {k : Nat} (hne : k ≠ K) : (put9 w K a b c d e f g h i).heap[k]? = w.heap[k]? := by
 unfold put9
 rw [Below.heap_setCell _ ⟨K, 8, none⟩ _ k hne, Below.heap_setCell _ ⟨K, 7, none⟩ _ k hne, Below.heap_setCell _ ⟨K, 6, none⟩ _ k hne, Below.heap_setCell _ ⟨K, 5, none⟩ _ k hne, Below.heap_setCell _ ⟨K, 4, none⟩ _ k hne, Below.heap_setCell _ ⟨K, 3, none⟩ _ k hne, Below.heap_setCell _ ⟨K, 2, none⟩ _ k hne, Below.heap_setCell _ ⟨K, 1, none⟩ _ k hne, Below.heap_setCell _ ⟨K, 0, none⟩ _ k hne]
theorem put9_bel {C : Nat} {u : World} (hb : Below C u w) (hK : C ≤ K) : Below C u (put9 w K a b c d e f g h i) :=
 ((((((((hb.setCell (p := ⟨K, 0, none⟩) hK _).setCell (p := ⟨K, 1, none⟩) hK _).setCell (p := ⟨K, 2, none⟩) hK _).setCell (p := ⟨K, 3, none⟩) hK _).setCell (p := ⟨K, 4, none⟩) hK _).setCell (p := ⟨K, 5, none⟩) hK _).setCell (p := ⟨K, 6, none⟩) hK _).setCell (p := ⟨K, 7, none⟩) hK _).setCell (p := ⟨K, 8, none⟩) hK _
theorem put9_sl {sz n : Nat} {v : Value} {xs : List Value} (hs : Sl w w.heap.size sz v n xs) (ho : Off K v) : Sl (put9 w K a b c d e f g h i) (put9 w K a b c d e f g h i).heap.size sz v n xs :=
 ((((((((hs.off ho).off ho).off ho).off ho).off ho).off ho).off ho).off ho).off ho
theorem put9_own {base sz n : Nat} {T : TypeId} {v : Value} {xs : List Value} (hs : w.ownsRow base T sz v n xs) (ho : K < base) : (put9 w K a b c d e f g h i).ownsRow base T sz v n xs :=
 own_keep hs fun k hk => put9_heap (by have := (own_hp hs k hk).1; omega)
end
def SesN (n2 : Nat) (es : List (Int × Int × Int)) (ss : List (Bool × Int)) (Aw : Option Addr) (cw : Nat) (w : World) (KS B : Nat) (vb : Value) : Prop :=
 ∃ A1 c1 A2 c2 A3 c3, Blk w KS 87 [.int .i64 3, .int .i64 2, .int .i64 1, .slice A1 2 c1, .slice A2 n2 c2, .slice A3 3 c3, .slice Aw 4 cw, .int .i64 4, .bool true] ∧
  SM w (.slice A1 2 c1) (.slice A2 n2 c2) (.slice A3 3 c3) es ss ∧ (Off KS (.slice A1 2 c1) ∧ Off KS (.slice A2 n2 c2) ∧ Off KS (.slice A3 3 c3)) ∧ (Clear B vb (.slice A1 2 c1) ∧ Clear B vb (.slice A2 n2 c2) ∧ Clear B vb (.slice A3 3 c3))
theorem SesN.wrote {n2 : Nat} {es : List (Int × Int × Int)} {ss : List (Bool × Int)} {Aw : Option Addr} {cw : Nat} {w w' : World} {KS B : Nat} {vb vb' : Value} (h : SesN n2 es ss Aw cw w KS B vb) (hK : KS < B) (hw : Wrote B w w' vb vb') : SesN n2 es ss Aw cw w' KS B vb' := by
 obtain ⟨A1, c1, A2, c2, A3, c3, h1, h2, h3, h4⟩ := h
 have s1 := h2.sh.wrote hw h4.1
 have s2 := h2.se.wrote hw h4.2.1
 have s3 := h2.ss.wrote hw h4.2.2
 exact ⟨A1, c1, A2, c2, A3, c3, h1.below hw.below hK, ⟨s1.1, s2.1, s3.1⟩, h3, s1.2, s2.2, s3.2⟩
theorem ses_put {n2 : Nat} {es : List (Int × Int × Int)} {ss : List (Bool × Int)} {Aw : Option Addr} {cw : Nat} {w : World} {KS B : Nat} {vb : Value} {o0 o1 o2 o3 o4 o5 o6 o7 o8 : Value} {A1 A2 A3 : Option Addr} {c1 c2 c3 : Nat}
  (hb : Blk w KS 87 [o0, o1, o2, o3, o4, o5, o6, o7, o8]) (hm : SM w (.slice A1 2 c1) (.slice A2 n2 c2) (.slice A3 3 c3) es ss)
  (ho : Off KS (.slice A1 2 c1) ∧ Off KS (.slice A2 n2 c2) ∧ Off KS (.slice A3 3 c3)) (hc : Clear B vb (.slice A1 2 c1) ∧ Clear B vb (.slice A2 n2 c2) ∧ Clear B vb (.slice A3 3 c3)) :
  SesN n2 es ss Aw cw (put9 w KS (.int .i64 3) (.int .i64 2) (.int .i64 1) (.slice A1 2 c1) (.slice A2 n2 c2) (.slice A3 3 c3) (.slice Aw 4 cw) (.int .i64 4) (.bool true)) KS B vb :=
 ⟨A1, c1, A2, c2, A3, c3, put9_blk hb, ⟨put9_sl hm.sh ho.1, put9_sl hm.se ho.2.1, put9_sl hm.ss ho.2.2⟩, ho, hc⟩
def BuI (p : Value) (bs : List UInt8) (w : World) (B : Nat) (vb : Value) : Prop := Blk w B 91 [p, vb] ∧ w.ownsRow (B + 1) 5 1 vb bs.length (Lib.byteCells bs)
theorem BuI.call {p : Value} {bs : List UInt8} {w w' : World} {B : Nat} {vb : Value} (h : BuI p bs w B vb) (hb : Below w.heap.size w w') : BuI p bs w' B vb := ⟨h.1.below hb h.1.lt, own_below h.2 hb⟩
theorem BuI.put {p : Value} {bs : List UInt8} {w : World} {B K : Nat} {vb : Value} (hh : BuI p bs w B vb) (hK : K < B) {a b c d e f g h i : Value} : BuI p bs (put9 w K a b c d e f g h i) B vb := ⟨put9_far hh.1 (by omega), put9_own hh.2 (by omega)⟩
theorem clear_new {B : Nat} {p : Value} {bs : List UInt8} {w : World} {vb v : Value} (h : BuI p bs w B vb) (hv : ∀ K, K < w.heap.size → Off K v) : Clear B vb v :=
 ⟨hv B h.1.lt, fun g hg => hv g (by obtain ⟨_, c, hc⟩ := own_hp h.2 g hg; exact (Array.getElem?_eq_some_iff.1 hc).1)⟩
theorem clear_zero {B c : Nat} {vb : Value} {A : Option Addr} : Clear B vb (.slice A 0 c) := ⟨off_zero, fun _ _ => off_zero⟩
def linesA : List (List ByteArray) := [⟨#[110, 101, 119]⟩ :: ([3, 2, 1] : List Nat).map dg, ⟨#[118, 101, 114, 116, 101, 120]⟩ :: ([4] : List Nat).map dg, ⟨#[118, 101, 114, 116, 101, 120]⟩ :: ([6] : List Nat).map dg, ⟨#[118, 101, 114, 116, 101, 120]⟩ :: ([8] : List Nat).map dg, ⟨#[101, 100, 103, 101]⟩ :: ([6, 4] : List Nat).map dg,
 ⟨#[99, 111, 110, 110, 101, 99, 116, 101, 100]⟩ :: ([4, 6] : List Nat).map dg, ⟨#[99, 111, 110, 110, 101, 99, 116, 101, 100]⟩ :: ([4, 8] : List Nat).map dg, ⟨#[97, 117, 100, 105, 116]⟩ :: ([] : List Nat).map dg, ⟨#[115, 105, 122, 101]⟩ :: ([6] : List Nat).map dg]
def textA : ByteArray := ⟨#[110, 101, 119, 32, 51, 32, 50, 32, 49, 10, 118, 101, 114, 116, 101, 120, 32, 52, 10, 118, 101, 114, 116, 101, 120, 32, 54, 10, 118, 101, 114, 116, 101, 120, 32, 56, 10, 101, 100, 103, 101, 32, 54, 32, 52, 10, 99, 111, 110, 110, 101, 99, 116, 101, 100, 32, 52, 32, 54, 10, 99, 111, 110, 110, 101, 99, 116, 101, 100, 32, 52, 32, 56, 10, 97, 117, 100, 105, 116, 10, 115, 105, 122, 101, 32, 54]⟩
theorem fin_A : Aw.fin textA = linesA := by decide +kernel
theorem plain_A : ∀ i, i < 86 → (Aw.isL (Aw.byt textA i) || Aw.byt textA i == 10 || Aw.byt textA i == 32) = true := by decide +kernel
end Go.Proofs.YtahodfikhocobaaGreatDoor
