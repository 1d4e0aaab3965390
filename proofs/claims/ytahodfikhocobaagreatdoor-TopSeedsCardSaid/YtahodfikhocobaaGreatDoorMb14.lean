/- The texts AwX, AwY, TdB, TdC, TpL, TdD, TdE, merged. No theorem here is a claim by itself. -/
import Derived.Test.YtahodfikhocobaaGreatDoorMb13
import Derived.Test.YtahodfikhocobaaGreatDoorMb10
namespace Go.Proofs.YtahodfikhocobaaGreatDoor
open Go.RowKit
set_option linter.unusedVariables false
set_option linter.unusedSimpArgs false
attribute [local go_sem ↓] Go.wp_at_zero Go.wp_at_succ
theorem plainA : Aw.Plain textA := by
 intro i hi
 have h := plain_A i hi
 simp only [Bool.or_eq_true, beq_iff_eq] at h
 rcases h with (h | h) | h
 · exact .inl h
 · exact .inr (.inl h)
 · exact .inr (.inr h)
theorem list9 {α : Type} {l : List α} (h : l.length = 9) : ∃ a b c d e f g h i, l = [a, b, c, d, e, f, g, h, i] := by
 match l, h with
 | [a, b, c, d, e, f, g, h, i], _ => exact ⟨a, b, c, d, e, f, g, h, i, rfl⟩
def LnsM (w : World) (AL : Option Addr) (cL : Nat) (L0 L1 L2 L3 L4 L5 L6 L7 L8 : Option Addr) (d0 d1 d2 d3 d4 d5 d6 d7 d8 : Nat) : Prop :=
 Sl w w.heap.size 1 (.slice AL 9 cL) 9 [.slice L0 4 d0, .slice L1 2 d1, .slice L2 2 d2, .slice L3 2 d3, .slice L4 3 d4, .slice L5 3 d5, .slice L6 3 d6, .slice L7 1 d7, .slice L8 2 d8] ∧ Sl w w.heap.size 1 (.slice L0 4 d0) 4 (strs (linesA[0]'(by decide))) ∧ Sl w w.heap.size 1 (.slice L1 2 d1) 2 (strs (linesA[1]'(by decide))) ∧ Sl w w.heap.size 1 (.slice L2 2 d2) 2 (strs (linesA[2]'(by decide))) ∧ Sl w w.heap.size 1 (.slice L3 2 d3) 2 (strs (linesA[3]'(by decide))) ∧ Sl w w.heap.size 1 (.slice L4 3 d4) 3 (strs (linesA[4]'(by decide))) ∧ Sl w w.heap.size 1 (.slice L5 3 d5) 3 (strs (linesA[5]'(by decide))) ∧ Sl w w.heap.size 1 (.slice L6 3 d6) 3 (strs (linesA[6]'(by decide))) ∧ Sl w w.heap.size 1 (.slice L7 1 d7) 1 (strs (linesA[7]'(by decide))) ∧ Sl w w.heap.size 1 (.slice L8 2 d8) 2 (strs (linesA[8]'(by decide)))
theorem lines_A (w : World) : Calls Tryz.prog 36 #[.string textA] w fun e w' => ∃ AL cL L0 L1 L2 L3 L4 L5 L6 L7 L8 d0 d1 d2 d3 d4 d5 d6 d7 d8, e = .returned (.tuple #[.slice AL 9 cL, .int .i64 0, .int .i64 0]) ∧ LnsM w' AL cL L0 L1 L2 L3 L4 L5 L6 L7 L8 d0 d1 d2 d3 d4 d5 d6 d7 d8 ∧ Below w.heap.size w w' := by
 refine (lines_ok textA (by decide) plainA w).mono ?_
 intro e w' hp
 rw [fin_A] at hp
 obtain ⟨v, vs, rfl, hlen, hL, hj, hb⟩ := hp
 obtain ⟨x0, x1, x2, x3, x4, x5, x6, x7, x8, rfl⟩ := list9 (show vs.length = 9 from hlen)
 have s0 : Sl w' w'.heap.size 1 x0 4 (strs (linesA[0]'(by decide))) := hj 0 (by simp) (by decide)
 have s1 : Sl w' w'.heap.size 1 x1 2 (strs (linesA[1]'(by decide))) := hj 1 (by simp) (by decide)
 have s2 : Sl w' w'.heap.size 1 x2 2 (strs (linesA[2]'(by decide))) := hj 2 (by simp) (by decide)
 have s3 : Sl w' w'.heap.size 1 x3 2 (strs (linesA[3]'(by decide))) := hj 3 (by simp) (by decide)
 have s4 : Sl w' w'.heap.size 1 x4 3 (strs (linesA[4]'(by decide))) := hj 4 (by simp) (by decide)
 have s5 : Sl w' w'.heap.size 1 x5 3 (strs (linesA[5]'(by decide))) := hj 5 (by simp) (by decide)
 have s6 : Sl w' w'.heap.size 1 x6 3 (strs (linesA[6]'(by decide))) := hj 6 (by simp) (by decide)
 have s7 : Sl w' w'.heap.size 1 x7 1 (strs (linesA[7]'(by decide))) := hj 7 (by simp) (by decide)
 have s8 : Sl w' w'.heap.size 1 x8 2 (strs (linesA[8]'(by decide))) := hj 8 (by simp) (by decide)
 clear hj hlen
 obtain ⟨AL, cL, rfl, _⟩ := id hL
 obtain ⟨L0, d0, rfl, _⟩ := id s0
 obtain ⟨L1, d1, rfl, _⟩ := id s1
 obtain ⟨L2, d2, rfl, _⟩ := id s2
 obtain ⟨L3, d3, rfl, _⟩ := id s3
 obtain ⟨L4, d4, rfl, _⟩ := id s4
 obtain ⟨L5, d5, rfl, _⟩ := id s5
 obtain ⟨L6, d6, rfl, _⟩ := id s6
 obtain ⟨L7, d7, rfl, _⟩ := id s7
 obtain ⟨L8, d8, rfl, _⟩ := id s8
 exact ⟨AL, cL, L0, L1, L2, L3, L4, L5, L6, L7, L8, d0, d1, d2, d3, d4, d5, d6, d7, d8, rfl, ⟨hL, s0, s1, s2, s3, s4, s5, s6, s7, s8⟩, hb⟩
def SesI (i : Nat) (Aw : Option Addr) (cw : Nat) (w : World) (KS B : Nat) (vb : Value) : Prop :=
 match i with
 | 0 => Blk w KS 87 [.int .i64 0, .int .i64 0, .int .i64 0, .slice none 0 0, .slice none 0 0, .slice none 0 0, .slice Aw 4 cw, .int .i64 0, .bool false]
 | 1 => SesN 0 [] sA0 Aw cw w KS B vb
 | 2 => SesN 0 [] sA1 Aw cw w KS B vb
 | 3 => SesN 0 [] sA2 Aw cw w KS B vb
 | 4 => SesN 0 [] sA3 Aw cw w KS B vb
 | _ => SesN 1 eA sA3 Aw cw w KS B vb
def outI (i : Nat) : List UInt8 :=
 match i with
 | 0 => []
 | 1 => [111, 107, 10]
 | 2 => [111, 107, 10, 111, 107, 10]
 | 3 => [111, 107, 10, 111, 107, 10, 111, 107, 10]
 | 4 => [111, 107, 10, 111, 107, 10, 111, 107, 10, 111, 107, 10]
 | 5 => [111, 107, 10, 111, 107, 10, 111, 107, 10, 111, 107, 10, 111, 107, 10]
 | 6 => [111, 107, 10, 111, 107, 10, 111, 107, 10, 111, 107, 10, 111, 107, 10, 121, 101, 115, 10]
 | 7 => [111, 107, 10, 111, 107, 10, 111, 107, 10, 111, 107, 10, 111, 107, 10, 121, 101, 115, 10, 110, 111, 10]
 | 8 => [111, 107, 10, 111, 107, 10, 111, 107, 10, 111, 107, 10, 111, 107, 10, 121, 101, 115, 10, 110, 111, 10, 121, 101, 115, 10]
 | _ => [111, 107, 10, 111, 107, 10, 111, 107, 10, 111, 107, 10, 111, 107, 10, 121, 101, 115, 10, 110, 111, 10, 121, 101, 115, 10, 50, 10]
def BuJ (i : Nat) (w : World) (B : Nat) (vb : Value) : Prop := if i = 0 then BuI (.pointer none) [] w B vb ∧ vb = .slice none 0 0 else BuI (.pointer (some ⟨B, 0, none⟩)) (outI i) w B vb
set_option maxHeartbeats 64000000 in
set_option maxRecDepth 100000 in
theorem run_A {Aw : Option Addr} {cw : Nat} {w : World} (hw : Sl w w.heap.size 1 (.slice Aw 4 cw) 4 (us [7, 1, 9, 2])) : Calls Tryz.prog 18 #[.string textA, .slice Aw 4 cw] w fun e w' => e = .returned (.string ⟨(outI 9).toArray⟩) ∧ Below w.heap.size w w' := by
 have SW := hid hw
 clear hw
 go_enter Tryz.func18, Tryz.ntmps18
 go_wp2_with fail
 refine (lines_A _).mono ?_; rintro e w1 ⟨AL, cL, L0, L1, L2, L3, L4, L5, L6, L7, L8, d0, d1, d2, d3, d4, d5, d6, d7, d8, rfl, hLN, b1⟩
 have LN := hid hLN
 have HB1 := hid b1
 replace SW := hid (SW.out.call b1)
 clear hLN b1
 go_upto_region 6 with (fail)
 obtain ⟨w2, hw2⟩ : ∃ W, W = w1.alloc (.cells #[.int .i64 0, .int .i64 0, .int .i64 0, .slice none 0 0, .slice none 0 0, .slice none 0 0, .slice Aw 4 cw, .int .i64 0, .bool false] 87) := ⟨_, rfl⟩
 obtain ⟨KS, hKS⟩ : ∃ K, K = w1.heap.size := ⟨_, rfl⟩
 obtain ⟨w3, hw3⟩ : ∃ W, W = w2.alloc (.cells #[.pointer none, .slice none 0 0] 91) := ⟨_, rfl⟩
 obtain ⟨KB, hKB⟩ : ∃ K, K = KS + 1 := ⟨_, rfl⟩
 have hz2 : w2.heap.size = KS + 1 := by rw [hw2, hKS]; simp
 have DS : Hid (Blk w3 KS 87 [.int .i64 0, .int .i64 0, .int .i64 0, .slice none 0 0, .slice none 0 0, .slice none 0 0, .slice Aw 4 cw, .int .i64 0, .bool false]) := hid (by rw [hw3, hw2, hKS]; exact (Blk.new _ _ _).alloc _)
 have DB : Hid (Blk w3 KB 91 [.pointer none, .slice none 0 0]) := hid (by rw [hw3, hKB, ← hz2]; exact Blk.new _ _ _)
 have HL : Hid (Below w1.heap.size w1 w3) := hid (by rw [hw3, hw2]; exact Bl.new (bel_new _ _) _)
 rw [← hw2, ← hKS, ← hKB, ← hw3]
 have LOS : Hid (w1.heap.size ≤ KS ∧ KS < KB) := hid (by omega)
 clear hw2 hw3 hKS hKB hz2
 go_wp2_with fail
 go_loopw [34] (fun iv wr => ∃ (i : Nat) (vb : Value), iv = .int .i64 (i : Int) ∧ i ≤ 9 ∧ Hid (SesI i Aw cw wr KS KB vb) ∧ Hid (BuJ i wr KB vb) ∧ Hid (Below w1.heap.size w1 wr)) (fun iv _ => 9 - (intOf iv).toNat)
 case atStart => exact ⟨0, _, rfl, by omega, DS, hid (by unfold BuJ; rw [if_pos rfl]; exact ⟨⟨DB.out, World.ownsRow_nil _ _ _ _⟩, rfl⟩), HL⟩
 case round =>
  clear DS DB HL
  obtain ⟨i, vb, rfl, hi, HS, HU, HL⟩ := hrel
  obtain ⟨_, _, he, _, _, _, hx⟩ := LN.out.1.call HL.out
  injection he with e1 e2 e3
  subst e1 e3
  obtain ⟨bL, oL, rfl, hbL, hcL⟩ := hx (by omega)
  have HC := hid hcL
  clear hx hcL hbL
  by_cases h0 : i = 0
  case pos =>
   subst h0
   have x0 : wr.cell? ⟨bL, oL, none⟩ = some (.slice L0 4 d0) := HC.out 0 _ rfl
   have LK := hid (LN.out.2.1.call HL.out)
   have DS : Hid (Blk wr KS 87 [.int .i64 0, .int .i64 0, .int .i64 0, .slice none 0 0, .slice none 0 0, .slice none 0 0, .slice Aw 4 cw, .int .i64 0, .bool false]) := HS
   clear HS
   have HU2 : Hid (BuI (.pointer none) [] wr KB vb ∧ vb = .slice none 0 0) := hid (by have := HU.out; unfold BuJ at this; rw [if_pos rfl] at this; exact this)
   obtain ⟨hu2, rfl⟩ := HU2.out
   have HU3 := hid hu2
   clear HU HU2 hu2
   have g0 := DS.out.cell 0
   have g1 := DS.out.cell 1
   have g2 := DS.out.cell 2
   have g3 := DS.out.cell 3
   have g4 := DS.out.cell 4
   have g5 := DS.out.cell 5
   have g6 := DS.out.cell 6
   have g7 := DS.out.cell 7
   have g8 := DS.out.cell 8
   have LT : Hid (KS < wr.heap.size ∧ KB < wr.heap.size) := hid ⟨DS.out.lt, HU3.out.1.lt⟩
   go_wp2_with fail
   refine (line_new (SW.out.call HL.out) LK.out).mono ?_; rintro e w4 ⟨A1, c1, A3, c3, rfl, sm, oN, b4⟩
   clear g0 g1 g2 g3 g4 g5 g6 g7 g8 x0
   obtain ⟨w5, hw5⟩ : ∃ W, W = put9 w4 KS (.int .i64 3) (.int .i64 2) (.int .i64 1) (.slice A1 2 c1) (.slice none 0 0) (.slice A3 3 c3) (.slice Aw 4 cw) (.int .i64 4) (.bool true) := ⟨_, rfl⟩
   have DS4 := hid (DS.out.on b4)
   have HN : Hid (SesN 0 [] sA0 Aw cw w5 KS KB (.slice none 0 0)) := hid (by rw [hw5]; exact ses_put DS4.out sm ⟨(oN KS LT.out.1).1, off_zero, (oN KS LT.out.1).2⟩ ⟨clear_new HU3.out (fun K hK => (oN K hK).1), clear_zero, clear_new HU3.out (fun K hK => (oN K hK).2)⟩)
   have HU5 := hid ((HU3.out.call b4).put LOS.out.2 (a := .int .i64 3) (b := .int .i64 2) (c := .int .i64 1) (d := .slice A1 2 c1) (e := .slice none 0 0) (f := .slice A3 3 c3) (g := .slice Aw 4 cw) (h := .int .i64 4) (i := .bool true))
   rw [← hw5] at HU5
   have HL5 : Hid (Below w1.heap.size w1 w5) := hid (by rw [hw5]; exact put9_bel (Bl.call HL.out b4) LOS.out.1)
   have HW5 := hid hw5
   clear hw5 b4 sm oN DS HU3 HL LK LT
   have g0 := DS4.out.cell 0
   have g1 := DS4.out.cell 1
   have g2 := DS4.out.cell 2
   have g3 := DS4.out.cell 3
   have g4 := DS4.out.cell 4
   have g5 := DS4.out.cell 5
   have g6 := DS4.out.cell 6
   have g7 := DS4.out.cell 7
   have g8 := DS4.out.cell 8
   have f0 := DS4.out.frozen 0
   have f1 := DS4.out.frozen 1
   have f2 := DS4.out.frozen 2
   have f3 := DS4.out.frozen 3
   have f4 := DS4.out.frozen 4
   have f5 := DS4.out.frozen 5
   have f6 := DS4.out.frozen 6
   have f7 := DS4.out.frozen 7
   have f8 := DS4.out.frozen 8
   unfold seN
   go_wp2_with fail
   have HW6 := HW5.out
   unfold put9 at HW6
   rw [← HW6]
   clear HW6 HW5 DS4 g0 f0 g1 f1 g2 f2 g3 f3 g4 f4 g5 f5 g6 f6 g7 f7 g8 f8
   refine (wstr_fresh (s := ⟨#[111, 107]⟩) HU5.out.1 (by decide)).mono ?_; rintro e w6 ⟨v6, rfl, d6, o6, wr6⟩
   have D6 := hid d6
   have O6 := hid o6
   have W6 := hid wr6
   clear d6 o6 wr6
   go_wp2_with fail
   refine (wbyte_ok D6.out O6.out (by decide)).mono ?_; rintro e w7 ⟨v7, rfl, d7, o7, wr7⟩
   have WT := hid (W6.out.trans wr7)
   have U7 : Hid (BuJ 1 w7 KB v7) := hid (by unfold BuJ; rw [if_neg (by omega)]; exact ⟨d7, o7⟩)
   have S7 : Hid (SesI 1 Aw cw w7 KS KB v7) := hid (HN.out.wrote LOS.out.2 WT.out)
   have HL7 : Hid (Below w1.heap.size w1 w7) := hid (HL5.out.trans (WT.out.below.mono (by have := LOS.out; omega)))
   clear d7 o7 wr7 W6 D6 O6 WT HN HL5 HU5
   go_wp2_with fail
   go_roundw
   case rel => exact ⟨1, v7, rfl, by omega, S7, U7, HL7⟩
   case measure => simp [intOf]
  by_cases h1 : i = 1
  case pos =>
   subst h1
   have x0 : wr.cell? ⟨bL, oL + 1, none⟩ = some (.slice L1 2 d1) := HC.out 1 _ rfl
   have LK := hid (LN.out.2.2.1.call HL.out)
   have HS' : SesN 0 [] sA0 Aw cw wr KS KB vb := HS.out
   obtain ⟨A1, c1, A2, c2, A3, c3, ds, hm, ho, hcl⟩ := HS'
   have DS := hid ds
   have HM := hid hm
   have HO := hid ho
   have HCL := hid hcl
   clear ds hm ho hcl
   clear HS
   have HU3 : Hid (BuI (.pointer (some ⟨KB, 0, none⟩)) (outI 1) wr KB vb) := hid (by have := HU.out; unfold BuJ at this; rw [if_neg (by omega)] at this; exact this)
   clear HU
   have g0 := DS.out.cell 0
   have g1 := DS.out.cell 1
   have g2 := DS.out.cell 2
   have g3 := DS.out.cell 3
   have g4 := DS.out.cell 4
   have g5 := DS.out.cell 5
   have g6 := DS.out.cell 6
   have g7 := DS.out.cell 7
   have g8 := DS.out.cell 8
   have LT : Hid (KS < wr.heap.size ∧ KB < wr.heap.size) := hid ⟨DS.out.lt, HU3.out.1.lt⟩
   go_wp2_with fail
   refine (line_v4 HM.out LK.out).mono ?_; rintro e w4 ⟨AN, cN, rfl, sm, oN, b4⟩
   clear g0 g1 g2 g3 g4 g5 g6 g7 g8 x0
   obtain ⟨w5, hw5⟩ : ∃ W, W = put9 w4 KS (.int .i64 3) (.int .i64 2) (.int .i64 1) (.slice A1 2 c1) (.slice A2 0 c2) (.slice AN 3 cN) (.slice Aw 4 cw) (.int .i64 4) (.bool true) := ⟨_, rfl⟩
   have DS4 := hid (DS.out.on b4)
   have HN : Hid (SesN 0 [] sA1 Aw cw w5 KS KB vb) := hid (by rw [hw5]; exact ses_put DS4.out sm ⟨HO.out.1, HO.out.2.1, oN KS LT.out.1⟩ ⟨HCL.out.1, HCL.out.2.1, clear_new HU3.out oN⟩)
   have HU5 := hid ((HU3.out.call b4).put LOS.out.2 (a := .int .i64 3) (b := .int .i64 2) (c := .int .i64 1) (d := .slice A1 2 c1) (e := .slice A2 0 c2) (f := .slice AN 3 cN) (g := .slice Aw 4 cw) (h := .int .i64 4) (i := .bool true))
   rw [← hw5] at HU5
   have HL5 : Hid (Below w1.heap.size w1 w5) := hid (by rw [hw5]; exact put9_bel (Bl.call HL.out b4) LOS.out.1)
   have HW5 := hid hw5
   clear hw5 b4 sm oN DS HU3 HL LK LT HM HO HCL
   have g0 := DS4.out.cell 0
   have g1 := DS4.out.cell 1
   have g2 := DS4.out.cell 2
   have g3 := DS4.out.cell 3
   have g4 := DS4.out.cell 4
   have g5 := DS4.out.cell 5
   have g6 := DS4.out.cell 6
   have g7 := DS4.out.cell 7
   have g8 := DS4.out.cell 8
   have f0 := DS4.out.frozen 0
   have f1 := DS4.out.frozen 1
   have f2 := DS4.out.frozen 2
   have f3 := DS4.out.frozen 3
   have f4 := DS4.out.frozen 4
   have f5 := DS4.out.frozen 5
   have f6 := DS4.out.frozen 6
   have f7 := DS4.out.frozen 7
   have f8 := DS4.out.frozen 8
   unfold seN
   go_wp2_with fail
   have HW6 := HW5.out
   unfold put9 at HW6
   rw [← HW6]
   clear HW6 HW5 DS4 g0 f0 g1 f1 g2 f2 g3 f3 g4 f4 g5 f5 g6 f6 g7 f7 g8 f8
   refine (wstr_used (s := ⟨#[111, 107]⟩) HU5.out.1 HU5.out.2 (by decide)).mono ?_; rintro e w6 ⟨v6, rfl, d6, o6, wr6⟩
   have D6 := hid d6
   have O6 := hid o6
   have W6 := hid wr6
   clear d6 o6 wr6
   go_wp2_with fail
   refine (wbyte_ok D6.out O6.out (by decide)).mono ?_; rintro e w7 ⟨v7, rfl, d7, o7, wr7⟩
   have WT := hid (W6.out.trans wr7)
   have U7 : Hid (BuJ 2 w7 KB v7) := hid (by unfold BuJ; rw [if_neg (by omega)]; exact ⟨d7, o7⟩)
   have S7 : Hid (SesI 2 Aw cw w7 KS KB v7) := hid (HN.out.wrote LOS.out.2 WT.out)
   have HL7 : Hid (Below w1.heap.size w1 w7) := hid (HL5.out.trans (WT.out.below.mono (by have := LOS.out; omega)))
   clear d7 o7 wr7 W6 D6 O6 WT HN HL5 HU5
   go_wp2_with fail
   go_roundw
   case rel => exact ⟨2, v7, rfl, by omega, S7, U7, HL7⟩
   case measure => simp [intOf]
  by_cases h2 : i = 2
  case pos =>
   subst h2
   have x0 : wr.cell? ⟨bL, oL + 2, none⟩ = some (.slice L2 2 d2) := HC.out 2 _ rfl
   have LK := hid (LN.out.2.2.2.1.call HL.out)
   have HS' : SesN 0 [] sA1 Aw cw wr KS KB vb := HS.out
   obtain ⟨A1, c1, A2, c2, A3, c3, ds, hm, ho, hcl⟩ := HS'
   have DS := hid ds
   have HM := hid hm
   have HO := hid ho
   have HCL := hid hcl
   clear ds hm ho hcl
   clear HS
   have HU3 : Hid (BuI (.pointer (some ⟨KB, 0, none⟩)) (outI 2) wr KB vb) := hid (by have := HU.out; unfold BuJ at this; rw [if_neg (by omega)] at this; exact this)
   clear HU
   have g0 := DS.out.cell 0
   have g1 := DS.out.cell 1
   have g2 := DS.out.cell 2
   have g3 := DS.out.cell 3
   have g4 := DS.out.cell 4
   have g5 := DS.out.cell 5
   have g6 := DS.out.cell 6
   have g7 := DS.out.cell 7
   have g8 := DS.out.cell 8
   have LT : Hid (KS < wr.heap.size ∧ KB < wr.heap.size) := hid ⟨DS.out.lt, HU3.out.1.lt⟩
   go_wp2_with fail
   refine (line_v6 HM.out LK.out).mono ?_; rintro e w4 ⟨AN, cN, rfl, sm, oN, b4⟩
   clear g0 g1 g2 g3 g4 g5 g6 g7 g8 x0
   obtain ⟨w5, hw5⟩ : ∃ W, W = put9 w4 KS (.int .i64 3) (.int .i64 2) (.int .i64 1) (.slice A1 2 c1) (.slice A2 0 c2) (.slice AN 3 cN) (.slice Aw 4 cw) (.int .i64 4) (.bool true) := ⟨_, rfl⟩
   have DS4 := hid (DS.out.on b4)
   have HN : Hid (SesN 0 [] sA2 Aw cw w5 KS KB vb) := hid (by rw [hw5]; exact ses_put DS4.out sm ⟨HO.out.1, HO.out.2.1, oN KS LT.out.1⟩ ⟨HCL.out.1, HCL.out.2.1, clear_new HU3.out oN⟩)
   have HU5 := hid ((HU3.out.call b4).put LOS.out.2 (a := .int .i64 3) (b := .int .i64 2) (c := .int .i64 1) (d := .slice A1 2 c1) (e := .slice A2 0 c2) (f := .slice AN 3 cN) (g := .slice Aw 4 cw) (h := .int .i64 4) (i := .bool true))
   rw [← hw5] at HU5
   have HL5 : Hid (Below w1.heap.size w1 w5) := hid (by rw [hw5]; exact put9_bel (Bl.call HL.out b4) LOS.out.1)
   have HW5 := hid hw5
   clear hw5 b4 sm oN DS HU3 HL LK LT HM HO HCL
   have g0 := DS4.out.cell 0
   have g1 := DS4.out.cell 1
   have g2 := DS4.out.cell 2
   have g3 := DS4.out.cell 3
   have g4 := DS4.out.cell 4
   have g5 := DS4.out.cell 5
   have g6 := DS4.out.cell 6
   have g7 := DS4.out.cell 7
   have g8 := DS4.out.cell 8
   have f0 := DS4.out.frozen 0
   have f1 := DS4.out.frozen 1
   have f2 := DS4.out.frozen 2
   have f3 := DS4.out.frozen 3
   have f4 := DS4.out.frozen 4
   have f5 := DS4.out.frozen 5
   have f6 := DS4.out.frozen 6
   have f7 := DS4.out.frozen 7
   have f8 := DS4.out.frozen 8
   unfold seN
   go_wp2_with fail
   have HW6 := HW5.out
   unfold put9 at HW6
   rw [← HW6]
   clear HW6 HW5 DS4 g0 f0 g1 f1 g2 f2 g3 f3 g4 f4 g5 f5 g6 f6 g7 f7 g8 f8
   refine (wstr_used (s := ⟨#[111, 107]⟩) HU5.out.1 HU5.out.2 (by decide)).mono ?_; rintro e w6 ⟨v6, rfl, d6, o6, wr6⟩
   have D6 := hid d6
   have O6 := hid o6
   have W6 := hid wr6
   clear d6 o6 wr6
   go_wp2_with fail
   refine (wbyte_ok D6.out O6.out (by decide)).mono ?_; rintro e w7 ⟨v7, rfl, d7, o7, wr7⟩
   have WT := hid (W6.out.trans wr7)
   have U7 : Hid (BuJ 3 w7 KB v7) := hid (by unfold BuJ; rw [if_neg (by omega)]; exact ⟨d7, o7⟩)
   have S7 : Hid (SesI 3 Aw cw w7 KS KB v7) := hid (HN.out.wrote LOS.out.2 WT.out)
   have HL7 : Hid (Below w1.heap.size w1 w7) := hid (HL5.out.trans (WT.out.below.mono (by have := LOS.out; omega)))
   clear d7 o7 wr7 W6 D6 O6 WT HN HL5 HU5
   go_wp2_with fail
   go_roundw
   case rel => exact ⟨3, v7, rfl, by omega, S7, U7, HL7⟩
   case measure => simp [intOf]
  by_cases h3 : i = 3
  case pos =>
   subst h3
   have x0 : wr.cell? ⟨bL, oL + 3, none⟩ = some (.slice L3 2 d3) := HC.out 3 _ rfl
   have LK := hid (LN.out.2.2.2.2.1.call HL.out)
   have HS' : SesN 0 [] sA2 Aw cw wr KS KB vb := HS.out
   obtain ⟨A1, c1, A2, c2, A3, c3, ds, hm, ho, hcl⟩ := HS'
   have DS := hid ds
   have HM := hid hm
   have HO := hid ho
   have HCL := hid hcl
   clear ds hm ho hcl
   clear HS
   have HU3 : Hid (BuI (.pointer (some ⟨KB, 0, none⟩)) (outI 3) wr KB vb) := hid (by have := HU.out; unfold BuJ at this; rw [if_neg (by omega)] at this; exact this)
   clear HU
   have g0 := DS.out.cell 0
   have g1 := DS.out.cell 1
   have g2 := DS.out.cell 2
   have g3 := DS.out.cell 3
   have g4 := DS.out.cell 4
   have g5 := DS.out.cell 5
   have g6 := DS.out.cell 6
   have g7 := DS.out.cell 7
   have g8 := DS.out.cell 8
   have LT : Hid (KS < wr.heap.size ∧ KB < wr.heap.size) := hid ⟨DS.out.lt, HU3.out.1.lt⟩
   go_wp2_with fail
   refine (line_v8 HM.out LK.out).mono ?_; rintro e w4 ⟨AN, cN, rfl, sm, oN, b4⟩
   clear g0 g1 g2 g3 g4 g5 g6 g7 g8 x0
   obtain ⟨w5, hw5⟩ : ∃ W, W = put9 w4 KS (.int .i64 3) (.int .i64 2) (.int .i64 1) (.slice A1 2 c1) (.slice A2 0 c2) (.slice AN 3 cN) (.slice Aw 4 cw) (.int .i64 4) (.bool true) := ⟨_, rfl⟩
   have DS4 := hid (DS.out.on b4)
   have HN : Hid (SesN 0 [] sA3 Aw cw w5 KS KB vb) := hid (by rw [hw5]; exact ses_put DS4.out sm ⟨HO.out.1, HO.out.2.1, oN KS LT.out.1⟩ ⟨HCL.out.1, HCL.out.2.1, clear_new HU3.out oN⟩)
   have HU5 := hid ((HU3.out.call b4).put LOS.out.2 (a := .int .i64 3) (b := .int .i64 2) (c := .int .i64 1) (d := .slice A1 2 c1) (e := .slice A2 0 c2) (f := .slice AN 3 cN) (g := .slice Aw 4 cw) (h := .int .i64 4) (i := .bool true))
   rw [← hw5] at HU5
   have HL5 : Hid (Below w1.heap.size w1 w5) := hid (by rw [hw5]; exact put9_bel (Bl.call HL.out b4) LOS.out.1)
   have HW5 := hid hw5
   clear hw5 b4 sm oN DS HU3 HL LK LT HM HO HCL
   have g0 := DS4.out.cell 0
   have g1 := DS4.out.cell 1
   have g2 := DS4.out.cell 2
   have g3 := DS4.out.cell 3
   have g4 := DS4.out.cell 4
   have g5 := DS4.out.cell 5
   have g6 := DS4.out.cell 6
   have g7 := DS4.out.cell 7
   have g8 := DS4.out.cell 8
   have f0 := DS4.out.frozen 0
   have f1 := DS4.out.frozen 1
   have f2 := DS4.out.frozen 2
   have f3 := DS4.out.frozen 3
   have f4 := DS4.out.frozen 4
   have f5 := DS4.out.frozen 5
   have f6 := DS4.out.frozen 6
   have f7 := DS4.out.frozen 7
   have f8 := DS4.out.frozen 8
   unfold seN
   go_wp2_with fail
   have HW6 := HW5.out
   unfold put9 at HW6
   rw [← HW6]
   clear HW6 HW5 DS4 g0 f0 g1 f1 g2 f2 g3 f3 g4 f4 g5 f5 g6 f6 g7 f7 g8 f8
   refine (wstr_used (s := ⟨#[111, 107]⟩) HU5.out.1 HU5.out.2 (by decide)).mono ?_; rintro e w6 ⟨v6, rfl, d6, o6, wr6⟩
   have D6 := hid d6
   have O6 := hid o6
   have W6 := hid wr6
   clear d6 o6 wr6
   go_wp2_with fail
   refine (wbyte_ok D6.out O6.out (by decide)).mono ?_; rintro e w7 ⟨v7, rfl, d7, o7, wr7⟩
   have WT := hid (W6.out.trans wr7)
   have U7 : Hid (BuJ 4 w7 KB v7) := hid (by unfold BuJ; rw [if_neg (by omega)]; exact ⟨d7, o7⟩)
   have S7 : Hid (SesI 4 Aw cw w7 KS KB v7) := hid (HN.out.wrote LOS.out.2 WT.out)
   have HL7 : Hid (Below w1.heap.size w1 w7) := hid (HL5.out.trans (WT.out.below.mono (by have := LOS.out; omega)))
   clear d7 o7 wr7 W6 D6 O6 WT HN HL5 HU5
   go_wp2_with fail
   go_roundw
   case rel => exact ⟨4, v7, rfl, by omega, S7, U7, HL7⟩
   case measure => simp [intOf]
  by_cases h4 : i = 4
  case pos =>
   subst h4
   have x0 : wr.cell? ⟨bL, oL + 4, none⟩ = some (.slice L4 3 d4) := HC.out 4 _ rfl
   have LK := hid (LN.out.2.2.2.2.2.1.call HL.out)
   have HS' : SesN 0 [] sA3 Aw cw wr KS KB vb := HS.out
   obtain ⟨A1, c1, A2, c2, A3, c3, ds, hm, ho, hcl⟩ := HS'
   have DS := hid ds
   have HM := hid hm
   have HO := hid ho
   have HCL := hid hcl
   clear ds hm ho hcl
   clear HS
   have HU3 : Hid (BuI (.pointer (some ⟨KB, 0, none⟩)) (outI 4) wr KB vb) := hid (by have := HU.out; unfold BuJ at this; rw [if_neg (by omega)] at this; exact this)
   clear HU
   have g0 := DS.out.cell 0
   have g1 := DS.out.cell 1
   have g2 := DS.out.cell 2
   have g3 := DS.out.cell 3
   have g4 := DS.out.cell 4
   have g5 := DS.out.cell 5
   have g6 := DS.out.cell 6
   have g7 := DS.out.cell 7
   have g8 := DS.out.cell 8
   have LT : Hid (KS < wr.heap.size ∧ KB < wr.heap.size) := hid ⟨DS.out.lt, HU3.out.1.lt⟩
   go_wp2_with fail
   refine (line_edge HM.out LK.out).mono ?_; rintro e w4 ⟨AN, cN, rfl, sm, oN, b4⟩
   clear g0 g1 g2 g3 g4 g5 g6 g7 g8 x0
   obtain ⟨w5, hw5⟩ : ∃ W, W = put9 w4 KS (.int .i64 3) (.int .i64 2) (.int .i64 1) (.slice A1 2 c1) (.slice AN 1 cN) (.slice A3 3 c3) (.slice Aw 4 cw) (.int .i64 4) (.bool true) := ⟨_, rfl⟩
   have DS4 := hid (DS.out.on b4)
   have HN : Hid (SesN 1 eA sA3 Aw cw w5 KS KB vb) := hid (by rw [hw5]; exact ses_put DS4.out sm ⟨HO.out.1, oN KS LT.out.1, HO.out.2.2⟩ ⟨HCL.out.1, clear_new HU3.out oN, HCL.out.2.2⟩)
   have HU5 := hid ((HU3.out.call b4).put LOS.out.2 (a := .int .i64 3) (b := .int .i64 2) (c := .int .i64 1) (d := .slice A1 2 c1) (e := .slice AN 1 cN) (f := .slice A3 3 c3) (g := .slice Aw 4 cw) (h := .int .i64 4) (i := .bool true))
   rw [← hw5] at HU5
   have HL5 : Hid (Below w1.heap.size w1 w5) := hid (by rw [hw5]; exact put9_bel (Bl.call HL.out b4) LOS.out.1)
   have HW5 := hid hw5
   clear hw5 b4 sm oN DS HU3 HL LK LT HM HO HCL
   have g0 := DS4.out.cell 0
   have g1 := DS4.out.cell 1
   have g2 := DS4.out.cell 2
   have g3 := DS4.out.cell 3
   have g4 := DS4.out.cell 4
   have g5 := DS4.out.cell 5
   have g6 := DS4.out.cell 6
   have g7 := DS4.out.cell 7
   have g8 := DS4.out.cell 8
   have f0 := DS4.out.frozen 0
   have f1 := DS4.out.frozen 1
   have f2 := DS4.out.frozen 2
   have f3 := DS4.out.frozen 3
   have f4 := DS4.out.frozen 4
   have f5 := DS4.out.frozen 5
   have f6 := DS4.out.frozen 6
   have f7 := DS4.out.frozen 7
   have f8 := DS4.out.frozen 8
   unfold seN
   go_wp2_with fail
   have HW6 := HW5.out
   unfold put9 at HW6
   rw [← HW6]
   clear HW6 HW5 DS4 g0 f0 g1 f1 g2 f2 g3 f3 g4 f4 g5 f5 g6 f6 g7 f7 g8 f8
   refine (wstr_used (s := ⟨#[111, 107]⟩) HU5.out.1 HU5.out.2 (by decide)).mono ?_; rintro e w6 ⟨v6, rfl, d6, o6, wr6⟩
   have D6 := hid d6
   have O6 := hid o6
   have W6 := hid wr6
   clear d6 o6 wr6
   go_wp2_with fail
   refine (wbyte_ok D6.out O6.out (by decide)).mono ?_; rintro e w7 ⟨v7, rfl, d7, o7, wr7⟩
   have WT := hid (W6.out.trans wr7)
   have U7 : Hid (BuJ 5 w7 KB v7) := hid (by unfold BuJ; rw [if_neg (by omega)]; exact ⟨d7, o7⟩)
   have S7 : Hid (SesI 5 Aw cw w7 KS KB v7) := hid (HN.out.wrote LOS.out.2 WT.out)
   have HL7 : Hid (Below w1.heap.size w1 w7) := hid (HL5.out.trans (WT.out.below.mono (by have := LOS.out; omega)))
   clear d7 o7 wr7 W6 D6 O6 WT HN HL5 HU5
   go_wp2_with fail
   go_roundw
   case rel => exact ⟨5, v7, rfl, by omega, S7, U7, HL7⟩
   case measure => simp [intOf]
  by_cases h5 : i = 5
  case pos =>
   subst h5
   have x0 : wr.cell? ⟨bL, oL + 5, none⟩ = some (.slice L5 3 d5) := HC.out 5 _ rfl
   have LK := hid (LN.out.2.2.2.2.2.2.1.call HL.out)
   have HS' : SesN 1 eA sA3 Aw cw wr KS KB vb := HS.out
   obtain ⟨A1, c1, A2, c2, A3, c3, ds, hm, ho, hcl⟩ := HS'
   have DS := hid ds
   have HM := hid hm
   have HO := hid ho
   have HCL := hid hcl
   clear ds hm ho hcl
   clear HS
   have HU3 : Hid (BuI (.pointer (some ⟨KB, 0, none⟩)) (outI 5) wr KB vb) := hid (by have := HU.out; unfold BuJ at this; rw [if_neg (by omega)] at this; exact this)
   clear HU
   have g0 := DS.out.cell 0
   have g1 := DS.out.cell 1
   have g2 := DS.out.cell 2
   have g3 := DS.out.cell 3
   have g4 := DS.out.cell 4
   have g5 := DS.out.cell 5
   have g6 := DS.out.cell 6
   have g7 := DS.out.cell 7
   have g8 := DS.out.cell 8
   have LT : Hid (KS < wr.heap.size ∧ KB < wr.heap.size) := hid ⟨DS.out.lt, HU3.out.1.lt⟩
   go_wp2_with fail
   refine (line_conn1 HM.out LK.out).mono ?_; rintro e w4 ⟨rfl, b4⟩
   clear g0 g1 g2 g3 g4 g5 g6 g7 g8 x0
   obtain ⟨w5, hw5⟩ : ∃ W, W = put9 w4 KS (.int .i64 3) (.int .i64 2) (.int .i64 1) (.slice A1 2 c1) (.slice A2 1 c2) (.slice A3 3 c3) (.slice Aw 4 cw) (.int .i64 4) (.bool true) := ⟨_, rfl⟩
   have DS4 := hid (DS.out.on b4)
   have HN : Hid (SesN 1 eA sA3 Aw cw w5 KS KB vb) := hid (by rw [hw5]; exact ses_put DS4.out (HM.out.call b4) HO.out HCL.out)
   have HU5 := hid ((HU3.out.call b4).put LOS.out.2 (a := .int .i64 3) (b := .int .i64 2) (c := .int .i64 1) (d := .slice A1 2 c1) (e := .slice A2 1 c2) (f := .slice A3 3 c3) (g := .slice Aw 4 cw) (h := .int .i64 4) (i := .bool true))
   rw [← hw5] at HU5
   have HL5 : Hid (Below w1.heap.size w1 w5) := hid (by rw [hw5]; exact put9_bel (Bl.call HL.out b4) LOS.out.1)
   have HW5 := hid hw5
   clear hw5 b4 DS HU3 HL LK LT HM HO HCL
   have g0 := DS4.out.cell 0
   have g1 := DS4.out.cell 1
   have g2 := DS4.out.cell 2
   have g3 := DS4.out.cell 3
   have g4 := DS4.out.cell 4
   have g5 := DS4.out.cell 5
   have g6 := DS4.out.cell 6
   have g7 := DS4.out.cell 7
   have g8 := DS4.out.cell 8
   have f0 := DS4.out.frozen 0
   have f1 := DS4.out.frozen 1
   have f2 := DS4.out.frozen 2
   have f3 := DS4.out.frozen 3
   have f4 := DS4.out.frozen 4
   have f5 := DS4.out.frozen 5
   have f6 := DS4.out.frozen 6
   have f7 := DS4.out.frozen 7
   have f8 := DS4.out.frozen 8
   unfold seN
   go_wp2_with fail
   have HW6 := HW5.out
   unfold put9 at HW6
   rw [← HW6]
   clear HW6 HW5 DS4 g0 f0 g1 f1 g2 f2 g3 f3 g4 f4 g5 f5 g6 f6 g7 f7 g8 f8
   refine (wstr_used (s := ⟨#[121, 101, 115]⟩) HU5.out.1 HU5.out.2 (by decide)).mono ?_; rintro e w6 ⟨v6, rfl, d6, o6, wr6⟩
   have D6 := hid d6
   have O6 := hid o6
   have W6 := hid wr6
   clear d6 o6 wr6
   go_wp2_with fail
   refine (wbyte_ok D6.out O6.out (by decide)).mono ?_; rintro e w7 ⟨v7, rfl, d7, o7, wr7⟩
   have WT := hid (W6.out.trans wr7)
   have U7 : Hid (BuJ 6 w7 KB v7) := hid (by unfold BuJ; rw [if_neg (by omega)]; exact ⟨d7, o7⟩)
   have S7 : Hid (SesI 6 Aw cw w7 KS KB v7) := hid (HN.out.wrote LOS.out.2 WT.out)
   have HL7 : Hid (Below w1.heap.size w1 w7) := hid (HL5.out.trans (WT.out.below.mono (by have := LOS.out; omega)))
   clear d7 o7 wr7 W6 D6 O6 WT HN HL5 HU5
   go_wp2_with fail
   go_roundw
   case rel => exact ⟨6, v7, rfl, by omega, S7, U7, HL7⟩
   case measure => simp [intOf]
  by_cases h6 : i = 6
  case pos =>
   subst h6
   have x0 : wr.cell? ⟨bL, oL + 6, none⟩ = some (.slice L6 3 d6) := HC.out 6 _ rfl
   have LK := hid (LN.out.2.2.2.2.2.2.2.1.call HL.out)
   have HS' : SesN 1 eA sA3 Aw cw wr KS KB vb := HS.out
   obtain ⟨A1, c1, A2, c2, A3, c3, ds, hm, ho, hcl⟩ := HS'
   have DS := hid ds
   have HM := hid hm
   have HO := hid ho
   have HCL := hid hcl
   clear ds hm ho hcl
   clear HS
   have HU3 : Hid (BuI (.pointer (some ⟨KB, 0, none⟩)) (outI 6) wr KB vb) := hid (by have := HU.out; unfold BuJ at this; rw [if_neg (by omega)] at this; exact this)
   clear HU
   have g0 := DS.out.cell 0
   have g1 := DS.out.cell 1
   have g2 := DS.out.cell 2
   have g3 := DS.out.cell 3
   have g4 := DS.out.cell 4
   have g5 := DS.out.cell 5
   have g6 := DS.out.cell 6
   have g7 := DS.out.cell 7
   have g8 := DS.out.cell 8
   have LT : Hid (KS < wr.heap.size ∧ KB < wr.heap.size) := hid ⟨DS.out.lt, HU3.out.1.lt⟩
   go_wp2_with fail
   refine (line_conn2 HM.out LK.out).mono ?_; rintro e w4 ⟨rfl, b4⟩
   clear g0 g1 g2 g3 g4 g5 g6 g7 g8 x0
   obtain ⟨w5, hw5⟩ : ∃ W, W = put9 w4 KS (.int .i64 3) (.int .i64 2) (.int .i64 1) (.slice A1 2 c1) (.slice A2 1 c2) (.slice A3 3 c3) (.slice Aw 4 cw) (.int .i64 4) (.bool true) := ⟨_, rfl⟩
   have DS4 := hid (DS.out.on b4)
   have HN : Hid (SesN 1 eA sA3 Aw cw w5 KS KB vb) := hid (by rw [hw5]; exact ses_put DS4.out (HM.out.call b4) HO.out HCL.out)
   have HU5 := hid ((HU3.out.call b4).put LOS.out.2 (a := .int .i64 3) (b := .int .i64 2) (c := .int .i64 1) (d := .slice A1 2 c1) (e := .slice A2 1 c2) (f := .slice A3 3 c3) (g := .slice Aw 4 cw) (h := .int .i64 4) (i := .bool true))
   rw [← hw5] at HU5
   have HL5 : Hid (Below w1.heap.size w1 w5) := hid (by rw [hw5]; exact put9_bel (Bl.call HL.out b4) LOS.out.1)
   have HW5 := hid hw5
   clear hw5 b4 DS HU3 HL LK LT HM HO HCL
   have g0 := DS4.out.cell 0
   have g1 := DS4.out.cell 1
   have g2 := DS4.out.cell 2
   have g3 := DS4.out.cell 3
   have g4 := DS4.out.cell 4
   have g5 := DS4.out.cell 5
   have g6 := DS4.out.cell 6
   have g7 := DS4.out.cell 7
   have g8 := DS4.out.cell 8
   have f0 := DS4.out.frozen 0
   have f1 := DS4.out.frozen 1
   have f2 := DS4.out.frozen 2
   have f3 := DS4.out.frozen 3
   have f4 := DS4.out.frozen 4
   have f5 := DS4.out.frozen 5
   have f6 := DS4.out.frozen 6
   have f7 := DS4.out.frozen 7
   have f8 := DS4.out.frozen 8
   unfold seN
   go_wp2_with fail
   have HW6 := HW5.out
   unfold put9 at HW6
   rw [← HW6]
   clear HW6 HW5 DS4 g0 f0 g1 f1 g2 f2 g3 f3 g4 f4 g5 f5 g6 f6 g7 f7 g8 f8
   refine (wstr_used (s := ⟨#[110, 111]⟩) HU5.out.1 HU5.out.2 (by decide)).mono ?_; rintro e w6 ⟨v6, rfl, d6, o6, wr6⟩
   have D6 := hid d6
   have O6 := hid o6
   have W6 := hid wr6
   clear d6 o6 wr6
   go_wp2_with fail
   refine (wbyte_ok D6.out O6.out (by decide)).mono ?_; rintro e w7 ⟨v7, rfl, d7, o7, wr7⟩
   have WT := hid (W6.out.trans wr7)
   have U7 : Hid (BuJ 7 w7 KB v7) := hid (by unfold BuJ; rw [if_neg (by omega)]; exact ⟨d7, o7⟩)
   have S7 : Hid (SesI 7 Aw cw w7 KS KB v7) := hid (HN.out.wrote LOS.out.2 WT.out)
   have HL7 : Hid (Below w1.heap.size w1 w7) := hid (HL5.out.trans (WT.out.below.mono (by have := LOS.out; omega)))
   clear d7 o7 wr7 W6 D6 O6 WT HN HL5 HU5
   go_wp2_with fail
   go_roundw
   case rel => exact ⟨7, v7, rfl, by omega, S7, U7, HL7⟩
   case measure => simp [intOf]
  by_cases h7 : i = 7
  case pos =>
   subst h7
   have x0 : wr.cell? ⟨bL, oL + 7, none⟩ = some (.slice L7 1 d7) := HC.out 7 _ rfl
   have LK := hid (LN.out.2.2.2.2.2.2.2.2.1.call HL.out)
   have HS' : SesN 1 eA sA3 Aw cw wr KS KB vb := HS.out
   obtain ⟨A1, c1, A2, c2, A3, c3, ds, hm, ho, hcl⟩ := HS'
   have DS := hid ds
   have HM := hid hm
   have HO := hid ho
   have HCL := hid hcl
   clear ds hm ho hcl
   clear HS
   have HU3 : Hid (BuI (.pointer (some ⟨KB, 0, none⟩)) (outI 7) wr KB vb) := hid (by have := HU.out; unfold BuJ at this; rw [if_neg (by omega)] at this; exact this)
   clear HU
   have g0 := DS.out.cell 0
   have g1 := DS.out.cell 1
   have g2 := DS.out.cell 2
   have g3 := DS.out.cell 3
   have g4 := DS.out.cell 4
   have g5 := DS.out.cell 5
   have g6 := DS.out.cell 6
   have g7 := DS.out.cell 7
   have g8 := DS.out.cell 8
   have LT : Hid (KS < wr.heap.size ∧ KB < wr.heap.size) := hid ⟨DS.out.lt, HU3.out.1.lt⟩
   go_wp2_with fail
   refine (line_audit HM.out LK.out).mono ?_; rintro e w4 ⟨rfl, b4⟩
   clear g0 g1 g2 g3 g4 g5 g6 g7 g8 x0
   obtain ⟨w5, hw5⟩ : ∃ W, W = put9 w4 KS (.int .i64 3) (.int .i64 2) (.int .i64 1) (.slice A1 2 c1) (.slice A2 1 c2) (.slice A3 3 c3) (.slice Aw 4 cw) (.int .i64 4) (.bool true) := ⟨_, rfl⟩
   have DS4 := hid (DS.out.on b4)
   have HN : Hid (SesN 1 eA sA3 Aw cw w5 KS KB vb) := hid (by rw [hw5]; exact ses_put DS4.out (HM.out.call b4) HO.out HCL.out)
   have HU5 := hid ((HU3.out.call b4).put LOS.out.2 (a := .int .i64 3) (b := .int .i64 2) (c := .int .i64 1) (d := .slice A1 2 c1) (e := .slice A2 1 c2) (f := .slice A3 3 c3) (g := .slice Aw 4 cw) (h := .int .i64 4) (i := .bool true))
   rw [← hw5] at HU5
   have HL5 : Hid (Below w1.heap.size w1 w5) := hid (by rw [hw5]; exact put9_bel (Bl.call HL.out b4) LOS.out.1)
   have HW5 := hid hw5
   clear hw5 b4 DS HU3 HL LK LT HM HO HCL
   have g0 := DS4.out.cell 0
   have g1 := DS4.out.cell 1
   have g2 := DS4.out.cell 2
   have g3 := DS4.out.cell 3
   have g4 := DS4.out.cell 4
   have g5 := DS4.out.cell 5
   have g6 := DS4.out.cell 6
   have g7 := DS4.out.cell 7
   have g8 := DS4.out.cell 8
   have f0 := DS4.out.frozen 0
   have f1 := DS4.out.frozen 1
   have f2 := DS4.out.frozen 2
   have f3 := DS4.out.frozen 3
   have f4 := DS4.out.frozen 4
   have f5 := DS4.out.frozen 5
   have f6 := DS4.out.frozen 6
   have f7 := DS4.out.frozen 7
   have f8 := DS4.out.frozen 8
   unfold seN
   go_wp2_with fail
   have HW6 := HW5.out
   unfold put9 at HW6
   rw [← HW6]
   clear HW6 HW5 DS4 g0 f0 g1 f1 g2 f2 g3 f3 g4 f4 g5 f5 g6 f6 g7 f7 g8 f8
   refine (wstr_used (s := ⟨#[121, 101, 115]⟩) HU5.out.1 HU5.out.2 (by decide)).mono ?_; rintro e w6 ⟨v6, rfl, d6, o6, wr6⟩
   have D6 := hid d6
   have O6 := hid o6
   have W6 := hid wr6
   clear d6 o6 wr6
   go_wp2_with fail
   refine (wbyte_ok D6.out O6.out (by decide)).mono ?_; rintro e w7 ⟨v7, rfl, d7, o7, wr7⟩
   have WT := hid (W6.out.trans wr7)
   have U7 : Hid (BuJ 8 w7 KB v7) := hid (by unfold BuJ; rw [if_neg (by omega)]; exact ⟨d7, o7⟩)
   have S7 : Hid (SesI 8 Aw cw w7 KS KB v7) := hid (HN.out.wrote LOS.out.2 WT.out)
   have HL7 : Hid (Below w1.heap.size w1 w7) := hid (HL5.out.trans (WT.out.below.mono (by have := LOS.out; omega)))
   clear d7 o7 wr7 W6 D6 O6 WT HN HL5 HU5
   go_wp2_with fail
   go_roundw
   case rel => exact ⟨8, v7, rfl, by omega, S7, U7, HL7⟩
   case measure => simp [intOf]
  by_cases h8 : i = 8
  case pos =>
   subst h8
   have x0 : wr.cell? ⟨bL, oL + 8, none⟩ = some (.slice L8 2 d8) := HC.out 8 _ rfl
   have LK := hid (LN.out.2.2.2.2.2.2.2.2.2.call HL.out)
   have HS' : SesN 1 eA sA3 Aw cw wr KS KB vb := HS.out
   obtain ⟨A1, c1, A2, c2, A3, c3, ds, hm, ho, hcl⟩ := HS'
   have DS := hid ds
   have HM := hid hm
   have HO := hid ho
   have HCL := hid hcl
   clear ds hm ho hcl
   clear HS
   have HU3 : Hid (BuI (.pointer (some ⟨KB, 0, none⟩)) (outI 8) wr KB vb) := hid (by have := HU.out; unfold BuJ at this; rw [if_neg (by omega)] at this; exact this)
   clear HU
   have g0 := DS.out.cell 0
   have g1 := DS.out.cell 1
   have g2 := DS.out.cell 2
   have g3 := DS.out.cell 3
   have g4 := DS.out.cell 4
   have g5 := DS.out.cell 5
   have g6 := DS.out.cell 6
   have g7 := DS.out.cell 7
   have g8 := DS.out.cell 8
   have LT : Hid (KS < wr.heap.size ∧ KB < wr.heap.size) := hid ⟨DS.out.lt, HU3.out.1.lt⟩
   go_wp2_with fail
   refine (line_size HM.out LK.out).mono ?_; rintro e w4 ⟨rfl, b4⟩
   clear g0 g1 g2 g3 g4 g5 g6 g7 g8 x0
   obtain ⟨w5, hw5⟩ : ∃ W, W = put9 w4 KS (.int .i64 3) (.int .i64 2) (.int .i64 1) (.slice A1 2 c1) (.slice A2 1 c2) (.slice A3 3 c3) (.slice Aw 4 cw) (.int .i64 4) (.bool true) := ⟨_, rfl⟩
   have DS4 := hid (DS.out.on b4)
   have HN : Hid (SesN 1 eA sA3 Aw cw w5 KS KB vb) := hid (by rw [hw5]; exact ses_put DS4.out (HM.out.call b4) HO.out HCL.out)
   have HU5 := hid ((HU3.out.call b4).put LOS.out.2 (a := .int .i64 3) (b := .int .i64 2) (c := .int .i64 1) (d := .slice A1 2 c1) (e := .slice A2 1 c2) (f := .slice A3 3 c3) (g := .slice Aw 4 cw) (h := .int .i64 4) (i := .bool true))
   rw [← hw5] at HU5
   have HL5 : Hid (Below w1.heap.size w1 w5) := hid (by rw [hw5]; exact put9_bel (Bl.call HL.out b4) LOS.out.1)
   have HW5 := hid hw5
   clear hw5 b4 DS HU3 HL LK LT HM HO HCL
   have g0 := DS4.out.cell 0
   have g1 := DS4.out.cell 1
   have g2 := DS4.out.cell 2
   have g3 := DS4.out.cell 3
   have g4 := DS4.out.cell 4
   have g5 := DS4.out.cell 5
   have g6 := DS4.out.cell 6
   have g7 := DS4.out.cell 7
   have g8 := DS4.out.cell 8
   have f0 := DS4.out.frozen 0
   have f1 := DS4.out.frozen 1
   have f2 := DS4.out.frozen 2
   have f3 := DS4.out.frozen 3
   have f4 := DS4.out.frozen 4
   have f5 := DS4.out.frozen 5
   have f6 := DS4.out.frozen 6
   have f7 := DS4.out.frozen 7
   have f8 := DS4.out.frozen 8
   unfold seN
   go_wp2_with fail
   have HW6 := HW5.out
   unfold put9 at HW6
   rw [← HW6]
   clear HW6 HW5 DS4 g0 f0 g1 f1 g2 f2 g3 f3 g4 f4 g5 f5 g6 f6 g7 f7 g8 f8
   refine (wstr_used (s := ⟨#[50]⟩) HU5.out.1 HU5.out.2 (by decide)).mono ?_; rintro e w6 ⟨v6, rfl, d6, o6, wr6⟩
   have D6 := hid d6
   have O6 := hid o6
   have W6 := hid wr6
   clear d6 o6 wr6
   go_wp2_with fail
   refine (wbyte_ok D6.out O6.out (by decide)).mono ?_; rintro e w7 ⟨v7, rfl, d7, o7, wr7⟩
   have WT := hid (W6.out.trans wr7)
   have U7 : Hid (BuJ 9 w7 KB v7) := hid (by unfold BuJ; rw [if_neg (by omega)]; exact ⟨d7, o7⟩)
   have S7 : Hid (SesI 9 Aw cw w7 KS KB v7) := hid (HN.out.wrote LOS.out.2 WT.out)
   have HL7 : Hid (Below w1.heap.size w1 w7) := hid (HL5.out.trans (WT.out.below.mono (by have := LOS.out; omega)))
   clear d7 o7 wr7 W6 D6 O6 WT HN HL5 HU5
   go_wp2_with fail
   go_roundw
   case rel => exact ⟨9, v7, rfl, by omega, S7, U7, HL7⟩
   case measure => simp [intOf]
  obtain rfl : i = 9 := by omega
  have HU3 : Hid (BuI (.pointer (some ⟨KB, 0, none⟩)) (outI 9) wr KB vb) := hid (by have := HU.out; unfold BuJ at this; rw [if_neg (by omega)] at this; exact this)
  clear HU HS
  go_wp2_with fail
  refine (bstring_ok (by decide) (by decide) HU3.out.1 HU3.out.2).mono ?_; rintro e w4 ⟨rfl, b4⟩
  have HB4 := hid (Bl.call HB1.out (HL.out.trans (b4.mono (by have := LOS.out; omega))))
  clear b4
  go_wp2
  go_ret
  exact ⟨rfl, HB4.out⟩
set_option maxHeartbeats 4000000 in
set_option maxRecDepth 100000 in
theorem awake_ok (w : World) : Calls Tryz.prog 6 #[] w (IsTrue w) := by
 obtain ⟨w1, hw1⟩ : ∃ W, W = w.alloc (.cells #[.int .u64 7, .int .u64 1, .int .u64 9, .int .u64 2] 40) := ⟨_, rfl⟩
 have HS : Hid (Sl w1 w1.heap.size 1 (.slice (some ⟨w.heap.size, 0, none⟩) 4 4) 4 (us [7, 1, 9, 2])) := hid (by rw [hw1]; exact (Blk.new w 40 (us [7, 1, 9, 2])).sl (by simp) (Nat.le_refl _) (by unfold maxLen; omega) rfl)
 have HB : Hid (Below w.heap.size w w1) := hid (by rw [hw1]; exact bel_new _ _)
 have HW := hid hw1
 clear hw1
 go_enter Tryz.func6, Tryz.ntmps6
 go_wp2_with fail
 rw [← HW.out]
 refine (run_A HS.out).mono ?_; rintro e w2 ⟨rfl, b2⟩
 have HB2 := hid (Bl.call HB.out b2)
 clear b2
 go_wp2
 go_ret
 exact ⟨rfl, HB2.out⟩
theorem mul_small {L R : Int} (a1 : 1 ≤ L) (a2 : L ≤ 16) (b1 : 1 ≤ R) (b2 : R ≤ 8) : 0 ≤ L * R ∧ L * R ≤ 128 := by
 refine ⟨Int.mul_nonneg (by omega) (by omega), ?_⟩
 have h1 : L * R ≤ 16 * R := Int.mul_le_mul_of_nonneg_right a2 (by omega)
 omega
theorem na_le {L R na : Nat} (g2 : 1 ≤ L) (g3 : L ≤ 16) (g4 : 1 ≤ R) (g5 : R ≤ 8) (g6 : na = L * R) : 1 ≤ na ∧ na ≤ 128 := by
 have h := mul_small (L := L) (R := R) (by omega) (by omega) (by omega) (by omega)
 rw [← Int.natCast_mul, ← g6] at h
 exact ⟨by rw [g6]; exact Nat.mul_pos (by omega) (by omega), by omega⟩
set_option maxHeartbeats 8000000 in
set_option maxRecDepth 100000 in
theorem td_no1 {N L R l : Int} {A1 A2 : Option Addr} {na nb c1 c2 : Nat} {va : Value} {w : World} (h1 : nb < na) :
  Calls Tryz.prog 4 #[.agg #[.int .i64 N, .int .i64 L, .int .i64 R], .slice A1 na c1, .slice A2 nb c2, va, .int .u8 l] w (IsTrue w) := by
 have t1 : (nb : Int) < (na : Int) := by omega
 obtain ⟨w1, hw1⟩ : ∃ W, W = w.alloc (.cells #[.int .i64 N, .int .i64 L, .int .i64 R] 23) := ⟨_, rfl⟩
 obtain ⟨K5, hK5⟩ : ∃ K, K = w.heap.size := ⟨_, rfl⟩
 have zw1 : w1.heap.size = K5 + 1 := by rw [hw1, hK5]; simp
 have D_K5 : Hid (Blk w1 K5 23 [.int .i64 N, .int .i64 L, .int .i64 R]) := hid (by rw [hK5]; rw [hw1]; exact Blk.new _ _ _)
 have LO_K5 : Hid (w.heap.size ≤ K5) := hid (by omega)
 have HB : Hid (Below w.heap.size w w1) := hid (by rw [hw1]; exact bel_new _ _)
 have HW_w1 := hid hw1
 have HK_K5 := hid hK5
 clear hw1 hK5 zw1
 go_enter Tryz.func4, Tryz.ntmps4
 go_upto_region 1 with (fail)
 rw [← HW_w1.out, ← HK_K5.out]
 have cK50 := D_K5.out.cell 0
 have cK51 := D_K5.out.cell 1
 have cK52 := D_K5.out.cell 2
 go_wp2_with fail
 refine (awake_ok _).mono ?_; rintro e w2 ⟨rfl, b2⟩
 have HB2 := hid (Bl.call HB.out b2)
 clear b2
 go_wp2
 go_ret
 exact ⟨rfl, HB2.out⟩
set_option maxHeartbeats 8000000 in
set_option maxRecDepth 100000 in
theorem td_no2 {N L R l : Int} {A1 A2 : Option Addr} {na nb c1 c2 : Nat} {va : Value} {w : World} (h1 : ¬ nb < na) (h2 : L < 1) :
  Calls Tryz.prog 4 #[.agg #[.int .i64 N, .int .i64 L, .int .i64 R], .slice A1 na c1, .slice A2 nb c2, va, .int .u8 l] w (IsTrue w) := by
 have t1 : ¬ (nb : Int) < (na : Int) := by omega
 obtain ⟨w1, hw1⟩ : ∃ W, W = w.alloc (.cells #[.int .i64 N, .int .i64 L, .int .i64 R] 23) := ⟨_, rfl⟩
 obtain ⟨K5, hK5⟩ : ∃ K, K = w.heap.size := ⟨_, rfl⟩
 have zw1 : w1.heap.size = K5 + 1 := by rw [hw1, hK5]; simp
 have D_K5 : Hid (Blk w1 K5 23 [.int .i64 N, .int .i64 L, .int .i64 R]) := hid (by rw [hK5]; rw [hw1]; exact Blk.new _ _ _)
 have LO_K5 : Hid (w.heap.size ≤ K5) := hid (by omega)
 have HB : Hid (Below w.heap.size w w1) := hid (by rw [hw1]; exact bel_new _ _)
 have HW_w1 := hid hw1
 have HK_K5 := hid hK5
 clear hw1 hK5 zw1
 go_enter Tryz.func4, Tryz.ntmps4
 go_upto_region 1 with (fail)
 rw [← HW_w1.out, ← HK_K5.out]
 have cK50 := D_K5.out.cell 0
 have cK51 := D_K5.out.cell 1
 have cK52 := D_K5.out.cell 2
 go_wp2_with fail
 refine (awake_ok _).mono ?_; rintro e w2 ⟨rfl, b2⟩
 have HB2 := hid (Bl.call HB.out b2)
 clear b2
 go_wp2
 go_ret
 exact ⟨rfl, HB2.out⟩
set_option maxHeartbeats 8000000 in
set_option maxRecDepth 100000 in
theorem td_no3 {N L R l : Int} {A1 A2 : Option Addr} {na nb c1 c2 : Nat} {va : Value} {w : World} (h1 : ¬ nb < na) (h2 : ¬ L < 1) (h3 : R < 1) :
  Calls Tryz.prog 4 #[.agg #[.int .i64 N, .int .i64 L, .int .i64 R], .slice A1 na c1, .slice A2 nb c2, va, .int .u8 l] w (IsTrue w) := by
 have t1 : ¬ (nb : Int) < (na : Int) := by omega
 obtain ⟨w1, hw1⟩ : ∃ W, W = w.alloc (.cells #[.int .i64 N, .int .i64 L, .int .i64 R] 23) := ⟨_, rfl⟩
 obtain ⟨K5, hK5⟩ : ∃ K, K = w.heap.size := ⟨_, rfl⟩
 have zw1 : w1.heap.size = K5 + 1 := by rw [hw1, hK5]; simp
 have D_K5 : Hid (Blk w1 K5 23 [.int .i64 N, .int .i64 L, .int .i64 R]) := hid (by rw [hK5]; rw [hw1]; exact Blk.new _ _ _)
 have LO_K5 : Hid (w.heap.size ≤ K5) := hid (by omega)
 have HB : Hid (Below w.heap.size w w1) := hid (by rw [hw1]; exact bel_new _ _)
 have HW_w1 := hid hw1
 have HK_K5 := hid hK5
 clear hw1 hK5 zw1
 go_enter Tryz.func4, Tryz.ntmps4
 go_upto_region 1 with (fail)
 rw [← HW_w1.out, ← HK_K5.out]
 have cK50 := D_K5.out.cell 0
 have cK51 := D_K5.out.cell 1
 have cK52 := D_K5.out.cell 2
 go_wp2_with fail
 refine (awake_ok _).mono ?_; rintro e w2 ⟨rfl, b2⟩
 have HB2 := hid (Bl.call HB.out b2)
 clear b2
 go_wp2
 go_ret
 exact ⟨rfl, HB2.out⟩
set_option maxHeartbeats 8000000 in
set_option maxRecDepth 100000 in
theorem td_no4 {N L R l : Int} {A1 A2 : Option Addr} {na nb c1 c2 : Nat} {va : Value} {w : World} (h1 : ¬ nb < na) (h2 : ¬ L < 1) (h3 : ¬ R < 1) (h4 : 16 < L) :
  Calls Tryz.prog 4 #[.agg #[.int .i64 N, .int .i64 L, .int .i64 R], .slice A1 na c1, .slice A2 nb c2, va, .int .u8 l] w (IsTrue w) := by
 have t1 : ¬ (nb : Int) < (na : Int) := by omega
 obtain ⟨w1, hw1⟩ : ∃ W, W = w.alloc (.cells #[.int .i64 N, .int .i64 L, .int .i64 R] 23) := ⟨_, rfl⟩
 obtain ⟨K5, hK5⟩ : ∃ K, K = w.heap.size := ⟨_, rfl⟩
 have zw1 : w1.heap.size = K5 + 1 := by rw [hw1, hK5]; simp
 have D_K5 : Hid (Blk w1 K5 23 [.int .i64 N, .int .i64 L, .int .i64 R]) := hid (by rw [hK5]; rw [hw1]; exact Blk.new _ _ _)
 have LO_K5 : Hid (w.heap.size ≤ K5) := hid (by omega)
 have HB : Hid (Below w.heap.size w w1) := hid (by rw [hw1]; exact bel_new _ _)
 have HW_w1 := hid hw1
 have HK_K5 := hid hK5
 clear hw1 hK5 zw1
 go_enter Tryz.func4, Tryz.ntmps4
 go_upto_region 1 with (fail)
 rw [← HW_w1.out, ← HK_K5.out]
 have cK50 := D_K5.out.cell 0
 have cK51 := D_K5.out.cell 1
 have cK52 := D_K5.out.cell 2
 go_wp2_with fail
 refine (awake_ok _).mono ?_; rintro e w2 ⟨rfl, b2⟩
 have HB2 := hid (Bl.call HB.out b2)
 clear b2
 go_wp2
 go_ret
 exact ⟨rfl, HB2.out⟩
set_option maxHeartbeats 8000000 in
set_option maxRecDepth 100000 in
theorem td_no5 {N L R l : Int} {A1 A2 : Option Addr} {na nb c1 c2 : Nat} {va : Value} {w : World} (h1 : ¬ nb < na) (h2 : ¬ L < 1) (h3 : ¬ R < 1) (h4 : ¬ 16 < L) (h5 : 8 < R) :
  Calls Tryz.prog 4 #[.agg #[.int .i64 N, .int .i64 L, .int .i64 R], .slice A1 na c1, .slice A2 nb c2, va, .int .u8 l] w (IsTrue w) := by
 have t1 : ¬ (nb : Int) < (na : Int) := by omega
 obtain ⟨w1, hw1⟩ : ∃ W, W = w.alloc (.cells #[.int .i64 N, .int .i64 L, .int .i64 R] 23) := ⟨_, rfl⟩
 obtain ⟨K5, hK5⟩ : ∃ K, K = w.heap.size := ⟨_, rfl⟩
 have zw1 : w1.heap.size = K5 + 1 := by rw [hw1, hK5]; simp
 have D_K5 : Hid (Blk w1 K5 23 [.int .i64 N, .int .i64 L, .int .i64 R]) := hid (by rw [hK5]; rw [hw1]; exact Blk.new _ _ _)
 have LO_K5 : Hid (w.heap.size ≤ K5) := hid (by omega)
 have HB : Hid (Below w.heap.size w w1) := hid (by rw [hw1]; exact bel_new _ _)
 have HW_w1 := hid hw1
 have HK_K5 := hid hK5
 clear hw1 hK5 zw1
 go_enter Tryz.func4, Tryz.ntmps4
 go_upto_region 1 with (fail)
 rw [← HW_w1.out, ← HK_K5.out]
 have cK50 := D_K5.out.cell 0
 have cK51 := D_K5.out.cell 1
 have cK52 := D_K5.out.cell 2
 go_wp2_with fail
 refine (awake_ok _).mono ?_; rintro e w2 ⟨rfl, b2⟩
 have HB2 := hid (Bl.call HB.out b2)
 clear b2
 go_wp2
 go_ret
 exact ⟨rfl, HB2.out⟩
set_option maxHeartbeats 8000000 in
set_option maxRecDepth 100000 in
theorem td_no6 {N L R l : Int} {A1 A2 : Option Addr} {na nb c1 c2 : Nat} {va : Value} {w : World} (h1 : ¬ nb < na) (h2 : ¬ L < 1) (h3 : ¬ R < 1) (h4 : ¬ 16 < L) (h5 : ¬ 8 < R) (h6 : (na : Int) ≠ L * R) :
  Calls Tryz.prog 4 #[.agg #[.int .i64 N, .int .i64 L, .int .i64 R], .slice A1 na c1, .slice A2 nb c2, va, .int .u8 l] w (IsTrue w) := by
 have t1 : ¬ (nb : Int) < (na : Int) := by omega
 have hm := mul_small (show 1 ≤ L by omega) (show L ≤ 16 by omega) (show 1 ≤ R by omega) (show R ≤ 8 by omega)
 obtain ⟨LR, hLR⟩ : ∃ x, x = L * R := ⟨_, rfl⟩
 have q : IntKind.i64.wrap (L * R) = LR := by rw [← hLR] at hm ⊢; rw [IntKind.wrap_i64]; omega
 rw [← hLR] at h6
 have t6 : ((na : Int) != LR) = true := by simp; omega
 clear hLR hm h6
 obtain ⟨w1, hw1⟩ : ∃ W, W = w.alloc (.cells #[.int .i64 N, .int .i64 L, .int .i64 R] 23) := ⟨_, rfl⟩
 obtain ⟨K5, hK5⟩ : ∃ K, K = w.heap.size := ⟨_, rfl⟩
 have zw1 : w1.heap.size = K5 + 1 := by rw [hw1, hK5]; simp
 have D_K5 : Hid (Blk w1 K5 23 [.int .i64 N, .int .i64 L, .int .i64 R]) := hid (by rw [hK5]; rw [hw1]; exact Blk.new _ _ _)
 have LO_K5 : Hid (w.heap.size ≤ K5) := hid (by omega)
 have HB : Hid (Below w.heap.size w w1) := hid (by rw [hw1]; exact bel_new _ _)
 have HW_w1 := hid hw1
 have HK_K5 := hid hK5
 clear hw1 hK5 zw1
 go_enter Tryz.func4, Tryz.ntmps4
 go_upto_region 1 with (fail)
 rw [← HW_w1.out, ← HK_K5.out]
 have cK50 := D_K5.out.cell 0
 have cK51 := D_K5.out.cell 1
 have cK52 := D_K5.out.cell 2
 go_wp2_with fail
 refine (awake_ok _).mono ?_; rintro e w2 ⟨rfl, b2⟩
 have HB2 := hid (Bl.call HB.out b2)
 clear b2
 go_wp2
 go_ret
 exact ⟨rfl, HB2.out⟩
theorem behind_any {N L R : Int} {vh va : Value} {m : Nat} {hs : List (Nat × Nat)} {acts : List (Bool × Int × Int)} {w : World} (h1 : Sl w w.heap.size 2 vh hs.length (hcs hs)) (hr : hs.length ≤ 8796093022208) (h2 : Sl w w.heap.size 3 va m (atc acts)) :
  Calls Tryz.prog 5 #[.agg #[.int .i64 N, .int .i64 L, .int .i64 R], vh, va] w (fun e w' => ∃ (x0 x1 x2 : Int) (B3 : Option Addr) (m3 d3 : Nat) (B4 : Option Addr) (m4 d4 : Nat) (y : Value) (b : Bool), e = .returned (.tuple #[.agg #[.int .i64 x0, .int .i64 x1, .int .i64 x2, .slice B3 m3 d3, .slice B4 m4 d4], y, .bool b]) ∧ Below w.heap.size w w') := by
 by_cases hf : FewOk N L R
 ·
  by_cases hg : GR N L R (hz hs) []
  ·
   have hp := gp_new hf hg
   obtain ⟨⟨a1, a2⟩, ⟨b1, b2⟩, c1, c2⟩ := hf
   obtain ⟨n, rfl⟩ := Int.eq_ofNat_of_zero_le (show 0 ≤ N by omega)
   obtain ⟨l, rfl⟩ := Int.eq_ofNat_of_zero_le (show 0 ≤ L by omega)
   obtain ⟨k, rfl⟩ := Int.eq_ofNat_of_zero_le (show 0 ≤ R by omega)
   simp only [Int.toNat_natCast] at hp
   refine (behind_yes h1 hr h2 hp).mono ?_
   rintro e w' ⟨vh, ve, va, rfl, gm, b⟩
   obtain ⟨A1, c1, A2, c2, rfl, rfl⟩ := gm.lit
   exact ⟨_, _, _, _, _, _, _, _, _, _, _, rfl, b⟩
  ·
   refine (behind_no h1 hr h2 (.inr hg)).mono ?_
   rintro e w' ⟨rfl, b⟩
   exact ⟨_, _, _, _, _, _, _, _, _, _, _, rfl, b⟩
 ·
  refine (behind_no h1 hr h2 (.inl hf)).mono ?_
  rintro e w' ⟨rfl, b⟩
  exact ⟨_, _, _, _, _, _, _, _, _, _, _, rfl, b⟩
set_option maxHeartbeats 64000000 in
set_option maxRecDepth 100000 in
theorem td_no7 {N : Int} {L R l : Nat} {A1 A2 : Option Addr} {na nb c1 c2 m : Nat} {va : Value} {ha1 hb1 : List (Nat × Nat)} {acts : List (Bool × Int × Int)} {w : World} (ha : Sl w w.heap.size 2 (.slice A1 na c1) na (hcs ha1)) (hb : Sl w w.heap.size 2 (.slice A2 nb c2) nb (hcs hb1)) (hc : Sl w w.heap.size 3 va m (atc acts)) (g1 : na ≤ nb) (g2 : 1 ≤ L) (g3 : L ≤ 16) (g4 : 1 ≤ R) (g5 : R ≤ 8) (g6 : na = L * R) (hl : l ≤ 255) (hno : ¬ FewOk N (L : Int) (R : Int) ∨ ¬ GR N (L : Int) (R : Int) (hz ha1) []) :
  Calls Tryz.prog 4 #[.agg #[.int .i64 N, .int .i64 (L : Int), .int .i64 (R : Int)], .slice A1 na c1, .slice A2 nb c2, va, .int .u8 (l : Int)] w (IsTrue w) := by
 have HNO := hid hno
 have S1 := hid ha
 have S2 := hid hb
 have S3 := hid hc
 have t1 : ¬ (nb : Int) < (na : Int) := by omega
 have t2 : ¬ (L : Int) < 1 := by omega
 have t3 : ¬ (R : Int) < 1 := by omega
 have t4 : ¬ 16 < (L : Int) := by omega
 have t5 : ¬ 8 < (R : Int) := by omega
 have hm := mul_small (L := L) (R := R) (by omega) (by omega) (by omega) (by omega)
 have hLR : (L : Int) * (R : Int) = (na : Int) := by rw [g6]; simp
 have q1 : IntKind.i64.wrap ((L : Int) * (R : Int)) = (na : Int) := by rw [IntKind.wrap_i64, hLR]; rw [hLR] at hm; omega
 have t6 : ((na : Int) != (na : Int)) = false := by simp
 obtain ⟨k, hk⟩ : ∃ k, k = l % L := ⟨_, rfl⟩
 have hkL : k < L := by rw [hk]; exact Nat.mod_lt _ (by omega)
 have q2 : IntKind.i64.wrap (l : Int) = (l : Int) := by rw [IntKind.wrap_i64]; omega
 have q3 : (l : Int).tmod (L : Int) = (k : Int) := by rw [hk]; exact (Int.ofNat_tmod l L).symm
 have t7 : ((L : Int) == 0) = false := by simp; omega
 have HKL := hid hkL
 have HG := hid (And.intro g1 (And.intro g2 (And.intro g3 (And.intro g4 (And.intro g5 g6)))))
 clear hm hLR hk ha hb hc
 have hk1 : k * R ≤ na := by rw [g6]; exact Nat.mul_le_mul_right R (by omega)
 obtain ⟨kR, hkR⟩ : ∃ x, x = k * R := ⟨_, rfl⟩
 rw [← hkR] at hk1
 have hna := na_le g2 g3 g4 g5 g6
 have q4 : IntKind.i64.wrap ((k : Int) * (R : Int)) = (kR : Int) := by rw [← Int.natCast_mul, ← hkR, IntKind.wrap_i64]; omega
 have HNA := hid hna
 have HKR := hid hkR
 have HK1 := hid hk1
 clear hkR hna hk1 g1 g2 g3 g4 g5 g6
 obtain ⟨w1, hw1⟩ : ∃ W, W = w.alloc (.cells #[.int .i64 N, .int .i64 (L : Int), .int .i64 (R : Int)] 23) := ⟨_, rfl⟩
 obtain ⟨K5, hK5⟩ : ∃ K, K = w.heap.size := ⟨_, rfl⟩
 have zw1 : w1.heap.size = K5 + 1 := by rw [hw1, hK5]; simp
 have D_K5 : Hid (Blk w1 K5 23 [.int .i64 N, .int .i64 (L : Int), .int .i64 (R : Int)]) := hid (by rw [hK5]; rw [hw1]; exact Blk.new _ _ _)
 have LO_K5 : Hid (w.heap.size ≤ K5) := hid (by omega)
 have HB : Hid (Below w.heap.size w w1) := hid (by rw [hw1]; exact bel_new _ _)
 replace S1 := hid (S1.out.call HB.out)
 replace S2 := hid (S2.out.call HB.out)
 replace S3 := hid (S3.out.call HB.out)
 have HW_w1 := hid hw1
 have HK_K5 := hid hK5
 clear hw1 hK5 zw1
 go_enter Tryz.func4, Tryz.ntmps4
 go_upto_region 1 with (fail)
 rw [← HW_w1.out, ← HK_K5.out]
 have cK50 := D_K5.out.cell 0
 have cK51 := D_K5.out.cell 1
 have cK52 := D_K5.out.cell 2
 go_upto_region 4 with (fail)
 have M1 := S1.out.max
 have HC1 : Hid (kR ≤ c1) := hid (by obtain ⟨_, _, he, h, _⟩ := S1.out; injection he; have := HK1.out; omega)
 have HC2 : Hid (na ≤ c2) := hid (by obtain ⟨_, _, he, h, _⟩ := S2.out; injection he; have := HG.out.1; omega)
 have LA : Hid (ha1.length = na) := hid (by have := S1.out.len; rw [len_hcs] at this; omega)
 have LB : Hid (hb1.length = nb) := hid (by have := S2.out.len; rw [len_hcs] at this; omega)
 have U1 : Hid (Sl w1 w1.heap.size 2 (.slice (cutA A1 c1 0 2) kR c1) kR (hcs (ha1.take kR))) := hid (by rw [← hcs_take]; exact S1.out.take HK1.out)
 have U2 : Hid (Sl w1 w1.heap.size 2 (.slice (cutA A2 c2 kR 2) (na - kR) (c2 - kR)) (na - kR) (hcs ((hb1.drop kR).take (na - kR)))) := hid (by rw [← hcs_take, ← hcs_drop]; exact S2.out.mid HK1.out HG.out.1)
 have hb1a : (0 + kR) * 16 ≤ 140737488355328 := by have := HNA.out; have := HK1.out; omega
 have hb2a : (0 + kR + (na - kR)) * 16 ≤ 140737488355328 := by have := HNA.out; have := HK1.out; omega
 refine wp_region_held_drew (S := fun w' => w'.cell? ⟨K5, 0, none⟩ = some (.int .i64 N) ∧ w'.cell? ⟨K5, 1, none⟩ = some (.int .i64 (L : Int)) ∧ w'.cell? ⟨K5, 2, none⟩ = some (.int .i64 (R : Int))) (by kernel_rfl) ⟨D_K5.out.cell 0, D_K5.out.cell 1, D_K5.out.cell 2⟩ (fun hHeld => ?_)
 clear cK50 cK51 cK52
 refine wpAnyH_take (i := 1) (oi := _) (v := ?_) rfl (by kernel_rfl) (by kernel_rfl) (by kernel_rfl) (fun _ _ _ h => h) (.inl ⟨by rfl, ?_⟩) (by assumption) ?_
 rotate_left
 · intro w hSw; obtain ⟨y0, y1, y2⟩ := hSw; go_simp; try (with_reducible rfl)
 (try simp only [Act.put, putL])
 refine wpAnyH_take (i := 2) (oi := _) (v := ?_) rfl (by kernel_rfl) (by kernel_rfl) (by kernel_rfl) (fun _ _ _ h => h) (.inl ⟨by rfl, ?_⟩) (by assumption) ?_
 rotate_left
 · intro w hSw; obtain ⟨y0, y1, y2⟩ := hSw; go_simp; try (with_reducible rfl)
 (try simp only [Act.put, putL])
 refine wpAnyH_take (i := 3) (oi := _) (v := ?_) rfl (by kernel_rfl) (by kernel_rfl) (by kernel_rfl) (fun _ _ _ h => h) (.inl ⟨by rfl, ?_⟩) (by assumption) ?_
 rotate_left
 · intro w hSw; obtain ⟨y0, y1, y2⟩ := hSw; go_simp; try (with_reducible rfl)
 (try simp only [Act.put, putL])
 refine wpAnyH_take (i := 4) (oi := _) (v := ?_) rfl (by kernel_rfl) (by kernel_rfl) (by kernel_rfl) (fun _ _ _ h => h) (.inl ⟨by rfl, ?_⟩) (by assumption) ?_
 rotate_left
 · intro w hSw; obtain ⟨y0, y1, y2⟩ := hSw; go_simp; try (with_reducible rfl)
 (try simp only [Act.put, putL])
 refine wpAnyH_take (i := 5) (oi := _) (v := ?_) rfl (by kernel_rfl) (by kernel_rfl) (by kernel_rfl) (fun _ _ _ h => h) (.inl ⟨by rfl, ?_⟩) (by assumption) ?_
 rotate_left
 · intro w hSw; obtain ⟨y0, y1, y2⟩ := hSw; go_simp; try (with_reducible rfl)
 (try simp only [Act.put, putL])
 refine wpAnyH_take (i := 6) (oi := _) (v := ?_) rfl (by kernel_rfl) (by kernel_rfl) (by kernel_rfl) (fun _ _ _ h => h) (.inl ⟨by rfl, ?_⟩) (by assumption) ?_
 rotate_left
 · intro w hSw; refine exec_take (A := A1) (n := na) (c := c1) (kk := kR) (x := .tmp 64) (k := .tmp 68) Thsh ?_ ?_ ?_ HC1.out _ <;> rfl
 (try simp only [Act.put, putL])
 refine wpAnyH_take (i := 8) (oi := _) (v := ?_) rfl (by kernel_rfl) (by kernel_rfl) (by kernel_rfl) (fun _ _ _ h => h) (.inl ⟨by rfl, ?_⟩) (by assumption) ?_
 rotate_left
 · intro w hSw; obtain ⟨y0, y1, y2⟩ := hSw; go_simp; try (with_reducible rfl)
 (try simp only [Act.put, putL])
 refine wpAnyH_take (i := 9) (oi := _) (v := ?_) rfl (by kernel_rfl) (by kernel_rfl) (by kernel_rfl) (fun _ _ _ h => h) (.inl ⟨by rfl, ?_⟩) (by assumption) ?_
 rotate_left
 · intro w hSw; obtain ⟨y0, y1, y2⟩ := hSw; go_simp; try (with_reducible rfl)
 (try simp only [Act.put, putL])
 refine wpAnyH_take (i := 10) (oi := _) (v := ?_) rfl (by kernel_rfl) (by kernel_rfl) (by kernel_rfl) (fun _ _ _ h => h) (.inl ⟨by rfl, ?_⟩) (by assumption) ?_
 rotate_left
 · intro w hSw; obtain ⟨y0, y1, y2⟩ := hSw; go_simp; try (with_reducible rfl)
 (try simp only [Act.put, putL])
 refine wpAnyH_take (i := 11) (oi := _) (v := ?_) rfl (by kernel_rfl) (by kernel_rfl) (by kernel_rfl) (fun _ _ _ h => h) (.inl ⟨by rfl, ?_⟩) (by assumption) ?_
 rotate_left
 · intro w hSw; obtain ⟨y0, y1, y2⟩ := hSw; go_simp; try (with_reducible rfl)
 (try simp only [Act.put, putL])
 refine wpAnyH_take (i := 12) (oi := _) (v := ?_) rfl (by kernel_rfl) (by kernel_rfl) (by kernel_rfl) (fun _ _ _ h => h) (.inl ⟨by rfl, ?_⟩) (by assumption) ?_
 rotate_left
 · intro w hSw; obtain ⟨y0, y1, y2⟩ := hSw; go_simp; try (with_reducible rfl)
 (try simp only [Act.put, putL])
 refine wpAnyH_take (i := 13) (oi := _) (v := ?_) rfl (by kernel_rfl) (by kernel_rfl) (by kernel_rfl) (fun _ _ _ h => h) (.inl ⟨by rfl, ?_⟩) (by assumption) ?_
 rotate_left
 · intro w hSw; obtain ⟨y0, y1, y2⟩ := hSw; go_simp; try (with_reducible rfl)
 (try simp only [Act.put, putL])
 refine wpAnyH_take (i := 14) (oi := _) (v := ?_) rfl (by kernel_rfl) (by kernel_rfl) (by kernel_rfl) (fun _ _ _ h => h) (.inl ⟨by rfl, ?_⟩) (by assumption) ?_
 rotate_left
 · intro w hSw; obtain ⟨y0, y1, y2⟩ := hSw; go_simp; try (with_reducible rfl)
 (try simp only [Act.put, putL])
 refine wpAnyH_take (i := 15) (oi := _) (v := ?_) rfl (by kernel_rfl) (by kernel_rfl) (by kernel_rfl) (fun _ _ _ h => h) (.inl ⟨by rfl, ?_⟩) (by assumption) ?_
 rotate_left
 · intro w hSw; refine exec_mid (A := A2) (n := nb) (c := c2) (lo := kR) (hi := na) (x := .tmp 71) (k := .tmp 75) (k2 := .tmp 77) Thsh ?_ ?_ ?_ ?_ HK1.out HC2.out _ <;> rfl
 (try simp only [Act.put, putL])
 refine wpAnyH_ready (rs := [0]) (by kernel_rfl) (by simp) ?_
 refine AllReadyH.cons (o := _) rfl (fun K hK => ?_) ?_
 ·
  go_simp
  refine hK.out _ _ ?_ (fun hHeld => ?_)
  · exact ⟨cell_later (bel_new _ _) hHeld.1, cell_later (bel_new _ _) hHeld.2.1, cell_later (bel_new _ _) hHeld.2.2⟩
  clear hK K
  (try simp only [Act.put, putL])
  refine wpAnyH_ready (rs := [7]) (by kernel_rfl) (by simp) ?_
  refine AllReadyH.cons (o := _) rfl (fun K hK => ?_) ?_
  ·
   skip
   refine step_appS rfl _ _ Thsh rfl rfl (own_empty _ _ 2 w1.heap.size (Nat.le_refl _)) rfl (Sl.alloc (Sl.qt U1.out (qt_drew _)) (Nat.le_refl _) _) (hcs_one _) hb1a (base_alloc' (Nat.le_refl _) _) ?_
   intro v5 w5 o5 b5
   refine hK.out _ _ ?_ (fun hHeld => ?_)
   · exact ⟨(b5.cell (p := ⟨K5, 0, none⟩) D_K5.out.lt).trans hHeld.1, (b5.cell (p := ⟨K5, 1, none⟩) D_K5.out.lt).trans hHeld.2.1, (b5.cell (p := ⟨K5, 2, none⟩) D_K5.out.lt).trans hHeld.2.2⟩
   clear hK K
   (try simp only [Act.put, putL])
   refine wpAnyH_ready (rs := [16]) (by kernel_rfl) (by simp) ?_
   refine AllReadyH.cons (o := _) rfl (fun K hK => ?_) ?_
   ·
    skip
    refine step_appS rfl _ _ Thsh rfl rfl o5 rfl (Sl.below (Sl.alloc (Sl.qt U2.out (qt_drew _)) (Nat.le_refl _) _) b5 (Nat.le_refl _)) (hcs_one _) hb2a (Nat.le_trans (base_alloc' (Nat.le_refl _) _) b5.size) ?_
    intro v6 w6 o6 b6
    refine hK.out _ _ ?_ (fun hHeld => ?_)
    · exact ⟨(b6.cell (p := ⟨K5, 0, none⟩) D_K5.out.lt).trans hHeld.1, (b6.cell (p := ⟨K5, 1, none⟩) D_K5.out.lt).trans hHeld.2.1, (b6.cell (p := ⟨K5, 2, none⟩) D_K5.out.lt).trans hHeld.2.2⟩
    clear hK K
    (try simp only [Act.put, putL])
    refine wpAnyH_take (i := 17) (oi := _) (v := ?_) rfl (by kernel_rfl) (by kernel_rfl) (by kernel_rfl) (fun _ _ _ h => h) (.inl ⟨by rfl, ?_⟩) (by assumption) ?_
    rotate_left
    · intro w hSw; obtain ⟨y0, y1, y2⟩ := hSw; go_simp; try (with_reducible rfl)
    (try simp only [Act.put, putL])
    refine wpAnyH_done (by kernel_rfl) ?_ _
    have e0 : 0 + kR + (na - kR) = na := by have := HK1.out; omega
    have e1 : [] ++ hcs (ha1.take kR) ++ hcs ((hb1.drop kR).take (na - kR)) = hcs (oth ha1 hb1 kR) := by unfold oth; rw [LA.out]; simp [hcs]
    rw [e0, e1] at o6
    obtain ⟨ot, hot⟩ : ∃ o, o = oth ha1 hb1 kR := ⟨_, rfl⟩
    rw [← hot] at o6
    have HOL : Hid (ot.length = na) := hid (by rw [hot, oth_len (by rw [LA.out]; exact HK1.out) (by rw [LA.out, LB.out]; exact HG.out.1)]; exact LA.out)
    obtain ⟨g, cg, rfl, hg1, hg2⟩ := own_form o6 (by have := HNA.out; omega)
    have B6 : Hid (Below w1.heap.size w1 w6) := hid (((Bl.qt (bel_new _ _) (qt_drew _)).trans b5).trans b6)
    have HOT := hid hot
    have O6 := hid o6
    have HG1 := hid hg1
    have HG2 := hid hg2
    clear hot o6 hg1 hg2 b5 b6 o5 e0 e1 hHeld U1 U2 hb1a hb2a
    go_wp2_with fail
    go_loopw [82] (fun iv wr => ∃ i : Nat, iv = .int .i64 (i : Int) ∧ i ≤ na ∧ Hid (wr.ownsRow w1.heap.size 42 2 (.slice (some ⟨g, 0, none⟩) na cg) na (hcs (mdK i ot))) ∧ Hid (Below w1.heap.size w1 wr)) (fun iv _ => na - (intOf iv).toNat)
    case atStart => exact ⟨0, rfl, Nat.zero_le _, hid (by rw [mdK_zero]; exact O6.out), B6⟩
    case round =>
     obtain ⟨i, rfl, hi, OW, BW⟩ := hrel
     by_cases hlt : i < na
     case pos =>
      have j0 : (i : Int) < (na : Int) := by omega
      have i0 : (0 : Int) ≤ (i : Int) := by omega
      have hil : i < ot.length := by rw [HOL.out]; exact hlt
      obtain ⟨p0, p1, f0, f1⟩ := own_hcells OW.out (j := i) (by rw [mdK_len]; exact hil)
      rw [mdK_at hil] at p0 p1
      obtain ⟨x, hx⟩ : ∃ x, x = (ot[i]'hil).1 := ⟨_, rfl⟩
      obtain ⟨y, hy⟩ : ∃ x, x = (ot[i]'hil).2 := ⟨_, rfl⟩
      rw [← hx] at p0
      rw [← hy] at p1
      have OW2 : Hid (((wr.setCell ⟨g, i * 2, none⟩ (.int .u64 ((x % 2305843009213693951 : Nat) : Int))).setCell ⟨g, i * 2 + 1, none⟩ (.int .u64 ((y % 2305843009213693951 : Nat) : Int))).ownsRow w1.heap.size 42 2 (.slice (some ⟨g, 0, none⟩) na cg) na (hcs (mdK (i + 1) ot))) := hid (by have := own_hput OW.out i (x % 2305843009213693951) (y % 2305843009213693951); rw [← mdK_next hil]; rw [hx, hy] at this ⊢; exact this)
      have BW2 : Hid (Below w1.heap.size w1 ((wr.setCell ⟨g, i * 2, none⟩ (.int .u64 ((x % 2305843009213693951 : Nat) : Int))).setCell ⟨g, i * 2 + 1, none⟩ (.int .u64 ((y % 2305843009213693951 : Nat) : Int)))) := hid ((BW.out.setCell (p := ⟨g, i * 2, none⟩) HG1.out _).setCell (p := ⟨g, i * 2 + 1, none⟩) HG1.out _)
      have t8 : (x : Int).tmod 2305843009213693951 = ((x % 2305843009213693951 : Nat) : Int) := (Int.ofNat_tmod x 2305843009213693951).symm
      have t9 : (y : Int).tmod 2305843009213693951 = ((y % 2305843009213693951 : Nat) : Int) := (Int.ofNat_tmod y 2305843009213693951).symm
      have s1 : ((x % 2305843009213693951 : Nat) : Int) = (x : Int) % 2305843009213693951 := Int.natCast_emod x 2305843009213693951
      have s2 : ((y % 2305843009213693951 : Nat) : Int) = (y : Int) % 2305843009213693951 := Int.natCast_emod y 2305843009213693951
      rw [s1, s2] at OW2 BW2
      clear hx hy
      go_wp2_with fail
      go_region
      have OW3 := hid OW2.out.drew
      have BW3 := hid (BW2.out.trans ((qt_drew _).below _))
      clear OW OW2 BW BW2 p0 p1 f0 f1
      have hna8 := HNA.out.2
      go_wp2
      go_roundw
      case rel => exact ⟨i + 1, by go_num, by omega, OW3, BW3⟩
      case measure => simp [intOf]; omega
     case neg =>
      have j0 : ¬ (i : Int) < (na : Int) := by omega
      have hin : i = ot.length := by rw [HOL.out]; omega
      rw [hin, mdK_all] at OW
      obtain ⟨ob, hob⟩ : ∃ o, o = ot.map md := ⟨_, rfl⟩
      have LOB : Hid (ob.length = na) := hid (by rw [hob, List.length_map]; exact HOL.out)
      rw [← hob] at OW
      have HOB : Hid (ob = (oth ha1 hb1 kR).map md) := hid (by rw [hob, HOT.out])
      clear hob hin
      replace S1 : Hid (Sl wr wr.heap.size 2 (.slice A1 na c1) ha1.length (hcs ha1)) := hid (by have := S1.out.call BW.out; rw [LA.out]; exact this)
      replace S3 := hid (S3.out.call BW.out)
      have SO : Hid (Sl wr wr.heap.size 2 (.slice (some ⟨g, 0, none⟩) na cg) ob.length (hcs ob)) := hid (by have := Sl.of_own OW.out; rw [LOB.out]; exact this)
      have RA : Hid (ha1.length ≤ 8796093022208) := hid (by rw [LA.out]; have := HNA.out; omega)
      have RB : Hid (ob.length ≤ 8796093022208) := hid (by rw [LOB.out]; have := HNA.out; omega)
      replace D_K5 := hid (D_K5.out.on BW.out)
      replace HB := hid (Bl.call HB.out BW.out)
      clear OW BW S2 O6 B6 HG1 HG2 HOL HOT LB HC1 HC2
      have n0 := D_K5.out.cell 0
      have n1 := D_K5.out.cell 1
      have n2 := D_K5.out.cell 2
      go_wp2_with fail
      refine (behind_no S1.out RA.out S3.out HNO.out).mono ?_; rintro e w8 ⟨rfl, b8⟩
      clear n0 n1 n2
      have b9 := Bl.new b8 (.cells #[.int .i64 0, .int .i64 0, .int .i64 0, .slice none 0 0, .slice none 0 0] 28)
      replace S3 := hid (S3.out.call b9)
      replace SO := hid (SO.out.call b9)
      replace D_K5 := hid (D_K5.out.on b9)
      replace HB := hid (Bl.call HB.out b9)
      clear b9
      have n0 := D_K5.out.cell 0
      have n1 := D_K5.out.cell 1
      have n2 := D_K5.out.cell 2
      go_wp2_with fail
      refine (behind_any SO.out RB.out S3.out).mono ?_; rintro e w10 ⟨x0, x1, x2, B3, m3, d3, B4, m4, d4, y, bb, rfl, b10⟩
      clear n0 n1 n2
      have HB2 := hid (Bl.new (Bl.call HB.out b10) (.cells #[.int .i64 x0, .int .i64 x1, .int .i64 x2, .slice B3 m3 d3, .slice B4 m4 d4] 28))
      clear b10
      go_wp2_with fail
      refine (awake_ok _).mono ?_; rintro e w11 ⟨rfl, b11⟩
      have HB3 := hid (Bl.call HB2.out b11)
      clear b11
      go_wp2
      go_ret
      exact ⟨rfl, HB3.out⟩
   exact AllReadyH.nil
  exact AllReadyH.nil
 exact AllReadyH.nil
theorem same_tp {v v' : Value} {p q : List Int} {w : World} (b : Bool) (h : sameB p q = b) (hs : Sl w w.heap.size 1 v p.length (ints p)) (hs' : Sl w w.heap.size 1 v' q.length (ints q)) :
  Calls Tryz.prog 9 #[v, v'] w fun e w' => e = .returned (.bool b) ∧ Qt w w' := same_is b h hs hs'
theorem actsF_P (n L : Nat) (S : Nat → List (Int × Int) → Option Nat) (l : List (Bool × Int × Int)) : actsF n L S l = l.foldl (Tp.actP n L S) [] := rfl
theorem hsOf_same {hs hs2 : List (Nat × Nat)} {R k t : Nat} (h : hs.take (k * R) = hs2.take (k * R)) (ht : t < k) : Tp.hsOf hs R t = Tp.hsOf hs2 R t := by
 unfold Tp.hsOf
 have hle : t * R + R ≤ k * R := by
  have := Nat.mul_le_mul_right R (show t + 1 ≤ k by omega)
  rw [Nat.add_mul] at this; omega
 have key : ∀ l : List (Nat × Nat), (l.drop (t * R)).take R = ((l.take (k * R)).drop (t * R)).take R := by
  intro l
  rw [List.drop_take, List.take_take, Nat.min_eq_left (by omega)]
 rw [key, h, ← key]
set_option maxHeartbeats 64000000 in
set_option maxRecDepth 100000 in
theorem td_yes {n L R l : Nat} {A1 A2 : Option Addr} {na nb c1 c2 m : Nat} {va : Value} {ha1 hb1 : List (Nat × Nat)} {acts : List (Bool × Int × Int)} {w : World} (ha : Sl w w.heap.size 2 (.slice A1 na c1) na (hcs ha1)) (hb : Sl w w.heap.size 2 (.slice A2 nb c2) nb (hcs hb1)) (hc : Sl w w.heap.size 3 va m (atc acts)) (g1 : na ≤ nb) (g2 : 1 ≤ L) (g3 : L ≤ 16) (g4 : 1 ≤ R) (g5 : R ≤ 8) (g6 : na = L * R) (hl : l ≤ 255) (hp0 : GP n L R ha1 []) :
  Calls Tryz.prog 4 #[.agg #[.int .i64 (n : Int), .int .i64 (L : Int), .int .i64 (R : Int)], .slice A1 na c1, .slice A2 nb c2, va, .int .u8 (l : Int)] w (IsTrue w) := by
 have HPA := hid hp0
 clear hp0
 have S1 := hid ha
 have S2 := hid hb
 have S3 := hid hc
 have t1 : ¬ (nb : Int) < (na : Int) := by omega
 have t2 : ¬ (L : Int) < 1 := by omega
 have t3 : ¬ (R : Int) < 1 := by omega
 have t4 : ¬ 16 < (L : Int) := by omega
 have t5 : ¬ 8 < (R : Int) := by omega
 have hm := mul_small (L := L) (R := R) (by omega) (by omega) (by omega) (by omega)
 have hLR : (L : Int) * (R : Int) = (na : Int) := by rw [g6]; simp
 have q1 : IntKind.i64.wrap ((L : Int) * (R : Int)) = (na : Int) := by rw [IntKind.wrap_i64, hLR]; rw [hLR] at hm; omega
 have t6 : ((na : Int) != (na : Int)) = false := by simp
 obtain ⟨k, hk⟩ : ∃ k, k = l % L := ⟨_, rfl⟩
 have hkL : k < L := by rw [hk]; exact Nat.mod_lt _ (by omega)
 have q2 : IntKind.i64.wrap (l : Int) = (l : Int) := by rw [IntKind.wrap_i64]; omega
 have q3 : (l : Int).tmod (L : Int) = (k : Int) := by rw [hk]; exact (Int.ofNat_tmod l L).symm
 have t7 : ((L : Int) == 0) = false := by simp; omega
 have HKL := hid hkL
 have HG := hid (And.intro g1 (And.intro g2 (And.intro g3 (And.intro g4 (And.intro g5 g6)))))
 clear hm hLR hk ha hb hc
 have hk1 : k * R ≤ na := by rw [g6]; exact Nat.mul_le_mul_right R (by omega)
 obtain ⟨kR, hkR⟩ : ∃ x, x = k * R := ⟨_, rfl⟩
 rw [← hkR] at hk1
 have hna := na_le g2 g3 g4 g5 g6
 have q4 : IntKind.i64.wrap ((k : Int) * (R : Int)) = (kR : Int) := by rw [← Int.natCast_mul, ← hkR, IntKind.wrap_i64]; omega
 have HNA := hid hna
 have HKR := hid hkR
 have HK1 := hid hk1
 clear hkR hna hk1 g1 g2 g3 g4 g5 g6
 obtain ⟨w1, hw1⟩ : ∃ W, W = w.alloc (.cells #[.int .i64 (n : Int), .int .i64 (L : Int), .int .i64 (R : Int)] 23) := ⟨_, rfl⟩
 obtain ⟨K5, hK5⟩ : ∃ K, K = w.heap.size := ⟨_, rfl⟩
 have zw1 : w1.heap.size = K5 + 1 := by rw [hw1, hK5]; simp
 have D_K5 : Hid (Blk w1 K5 23 [.int .i64 (n : Int), .int .i64 (L : Int), .int .i64 (R : Int)]) := hid (by rw [hK5]; rw [hw1]; exact Blk.new _ _ _)
 have LO_K5 : Hid (w.heap.size ≤ K5) := hid (by omega)
 have HB : Hid (Below w.heap.size w w1) := hid (by rw [hw1]; exact bel_new _ _)
 replace S1 := hid (S1.out.call HB.out)
 replace S2 := hid (S2.out.call HB.out)
 replace S3 := hid (S3.out.call HB.out)
 have HW_w1 := hid hw1
 have HK_K5 := hid hK5
 clear hw1 hK5 zw1
 go_enter Tryz.func4, Tryz.ntmps4
 go_upto_region 1 with (fail)
 rw [← HW_w1.out, ← HK_K5.out]
 have cK50 := D_K5.out.cell 0
 have cK51 := D_K5.out.cell 1
 have cK52 := D_K5.out.cell 2
 go_upto_region 4 with (fail)
 have M1 := S1.out.max
 have HC1 : Hid (kR ≤ c1) := hid (by obtain ⟨_, _, he, h, _⟩ := S1.out; injection he; have := HK1.out; omega)
 have HC2 : Hid (na ≤ c2) := hid (by obtain ⟨_, _, he, h, _⟩ := S2.out; injection he; have := HG.out.1; omega)
 have LA : Hid (ha1.length = na) := hid (by have := S1.out.len; rw [len_hcs] at this; omega)
 have LB : Hid (hb1.length = nb) := hid (by have := S2.out.len; rw [len_hcs] at this; omega)
 have U1 : Hid (Sl w1 w1.heap.size 2 (.slice (cutA A1 c1 0 2) kR c1) kR (hcs (ha1.take kR))) := hid (by rw [← hcs_take]; exact S1.out.take HK1.out)
 have U2 : Hid (Sl w1 w1.heap.size 2 (.slice (cutA A2 c2 kR 2) (na - kR) (c2 - kR)) (na - kR) (hcs ((hb1.drop kR).take (na - kR)))) := hid (by rw [← hcs_take, ← hcs_drop]; exact S2.out.mid HK1.out HG.out.1)
 have hb1a : (0 + kR) * 16 ≤ 140737488355328 := by have := HNA.out; have := HK1.out; omega
 have hb2a : (0 + kR + (na - kR)) * 16 ≤ 140737488355328 := by have := HNA.out; have := HK1.out; omega
 refine wp_region_held_drew (S := fun w' => w'.cell? ⟨K5, 0, none⟩ = some (.int .i64 (n : Int)) ∧ w'.cell? ⟨K5, 1, none⟩ = some (.int .i64 (L : Int)) ∧ w'.cell? ⟨K5, 2, none⟩ = some (.int .i64 (R : Int))) (by kernel_rfl) ⟨D_K5.out.cell 0, D_K5.out.cell 1, D_K5.out.cell 2⟩ (fun hHeld => ?_)
 clear cK50 cK51 cK52
 refine wpAnyH_take (i := 1) (oi := _) (v := ?_) rfl (by kernel_rfl) (by kernel_rfl) (by kernel_rfl) (fun _ _ _ h => h) (.inl ⟨by rfl, ?_⟩) (by assumption) ?_
 rotate_left
 · intro w hSw; obtain ⟨y0, y1, y2⟩ := hSw; go_simp; try (with_reducible rfl)
 (try simp only [Act.put, putL])
 refine wpAnyH_take (i := 2) (oi := _) (v := ?_) rfl (by kernel_rfl) (by kernel_rfl) (by kernel_rfl) (fun _ _ _ h => h) (.inl ⟨by rfl, ?_⟩) (by assumption) ?_
 rotate_left
 · intro w hSw; obtain ⟨y0, y1, y2⟩ := hSw; go_simp; try (with_reducible rfl)
 (try simp only [Act.put, putL])
 refine wpAnyH_take (i := 3) (oi := _) (v := ?_) rfl (by kernel_rfl) (by kernel_rfl) (by kernel_rfl) (fun _ _ _ h => h) (.inl ⟨by rfl, ?_⟩) (by assumption) ?_
 rotate_left
 · intro w hSw; obtain ⟨y0, y1, y2⟩ := hSw; go_simp; try (with_reducible rfl)
 (try simp only [Act.put, putL])
 refine wpAnyH_take (i := 4) (oi := _) (v := ?_) rfl (by kernel_rfl) (by kernel_rfl) (by kernel_rfl) (fun _ _ _ h => h) (.inl ⟨by rfl, ?_⟩) (by assumption) ?_
 rotate_left
 · intro w hSw; obtain ⟨y0, y1, y2⟩ := hSw; go_simp; try (with_reducible rfl)
 (try simp only [Act.put, putL])
 refine wpAnyH_take (i := 5) (oi := _) (v := ?_) rfl (by kernel_rfl) (by kernel_rfl) (by kernel_rfl) (fun _ _ _ h => h) (.inl ⟨by rfl, ?_⟩) (by assumption) ?_
 rotate_left
 · intro w hSw; obtain ⟨y0, y1, y2⟩ := hSw; go_simp; try (with_reducible rfl)
 (try simp only [Act.put, putL])
 refine wpAnyH_take (i := 6) (oi := _) (v := ?_) rfl (by kernel_rfl) (by kernel_rfl) (by kernel_rfl) (fun _ _ _ h => h) (.inl ⟨by rfl, ?_⟩) (by assumption) ?_
 rotate_left
 · intro w hSw; refine exec_take (A := A1) (n := na) (c := c1) (kk := kR) (x := .tmp 64) (k := .tmp 68) Thsh ?_ ?_ ?_ HC1.out _ <;> rfl
 (try simp only [Act.put, putL])
 refine wpAnyH_take (i := 8) (oi := _) (v := ?_) rfl (by kernel_rfl) (by kernel_rfl) (by kernel_rfl) (fun _ _ _ h => h) (.inl ⟨by rfl, ?_⟩) (by assumption) ?_
 rotate_left
 · intro w hSw; obtain ⟨y0, y1, y2⟩ := hSw; go_simp; try (with_reducible rfl)
 (try simp only [Act.put, putL])
 refine wpAnyH_take (i := 9) (oi := _) (v := ?_) rfl (by kernel_rfl) (by kernel_rfl) (by kernel_rfl) (fun _ _ _ h => h) (.inl ⟨by rfl, ?_⟩) (by assumption) ?_
 rotate_left
 · intro w hSw; obtain ⟨y0, y1, y2⟩ := hSw; go_simp; try (with_reducible rfl)
 (try simp only [Act.put, putL])
 refine wpAnyH_take (i := 10) (oi := _) (v := ?_) rfl (by kernel_rfl) (by kernel_rfl) (by kernel_rfl) (fun _ _ _ h => h) (.inl ⟨by rfl, ?_⟩) (by assumption) ?_
 rotate_left
 · intro w hSw; obtain ⟨y0, y1, y2⟩ := hSw; go_simp; try (with_reducible rfl)
 (try simp only [Act.put, putL])
 refine wpAnyH_take (i := 11) (oi := _) (v := ?_) rfl (by kernel_rfl) (by kernel_rfl) (by kernel_rfl) (fun _ _ _ h => h) (.inl ⟨by rfl, ?_⟩) (by assumption) ?_
 rotate_left
 · intro w hSw; obtain ⟨y0, y1, y2⟩ := hSw; go_simp; try (with_reducible rfl)
 (try simp only [Act.put, putL])
 refine wpAnyH_take (i := 12) (oi := _) (v := ?_) rfl (by kernel_rfl) (by kernel_rfl) (by kernel_rfl) (fun _ _ _ h => h) (.inl ⟨by rfl, ?_⟩) (by assumption) ?_
 rotate_left
 · intro w hSw; obtain ⟨y0, y1, y2⟩ := hSw; go_simp; try (with_reducible rfl)
 (try simp only [Act.put, putL])
 refine wpAnyH_take (i := 13) (oi := _) (v := ?_) rfl (by kernel_rfl) (by kernel_rfl) (by kernel_rfl) (fun _ _ _ h => h) (.inl ⟨by rfl, ?_⟩) (by assumption) ?_
 rotate_left
 · intro w hSw; obtain ⟨y0, y1, y2⟩ := hSw; go_simp; try (with_reducible rfl)
 (try simp only [Act.put, putL])
 refine wpAnyH_take (i := 14) (oi := _) (v := ?_) rfl (by kernel_rfl) (by kernel_rfl) (by kernel_rfl) (fun _ _ _ h => h) (.inl ⟨by rfl, ?_⟩) (by assumption) ?_
 rotate_left
 · intro w hSw; obtain ⟨y0, y1, y2⟩ := hSw; go_simp; try (with_reducible rfl)
 (try simp only [Act.put, putL])
 refine wpAnyH_take (i := 15) (oi := _) (v := ?_) rfl (by kernel_rfl) (by kernel_rfl) (by kernel_rfl) (fun _ _ _ h => h) (.inl ⟨by rfl, ?_⟩) (by assumption) ?_
 rotate_left
 · intro w hSw; refine exec_mid (A := A2) (n := nb) (c := c2) (lo := kR) (hi := na) (x := .tmp 71) (k := .tmp 75) (k2 := .tmp 77) Thsh ?_ ?_ ?_ ?_ HK1.out HC2.out _ <;> rfl
 (try simp only [Act.put, putL])
 refine wpAnyH_ready (rs := [0]) (by kernel_rfl) (by simp) ?_
 refine AllReadyH.cons (o := _) rfl (fun K hK => ?_) ?_
 ·
  go_simp
  refine hK.out _ _ ?_ (fun hHeld => ?_)
  · exact ⟨cell_later (bel_new _ _) hHeld.1, cell_later (bel_new _ _) hHeld.2.1, cell_later (bel_new _ _) hHeld.2.2⟩
  clear hK K
  (try simp only [Act.put, putL])
  refine wpAnyH_ready (rs := [7]) (by kernel_rfl) (by simp) ?_
  refine AllReadyH.cons (o := _) rfl (fun K hK => ?_) ?_
  ·
   skip
   refine step_appS rfl _ _ Thsh rfl rfl (own_empty _ _ 2 w1.heap.size (Nat.le_refl _)) rfl (Sl.alloc (Sl.qt U1.out (qt_drew _)) (Nat.le_refl _) _) (hcs_one _) hb1a (base_alloc' (Nat.le_refl _) _) ?_
   intro v5 w5 o5 b5
   refine hK.out _ _ ?_ (fun hHeld => ?_)
   · exact ⟨(b5.cell (p := ⟨K5, 0, none⟩) D_K5.out.lt).trans hHeld.1, (b5.cell (p := ⟨K5, 1, none⟩) D_K5.out.lt).trans hHeld.2.1, (b5.cell (p := ⟨K5, 2, none⟩) D_K5.out.lt).trans hHeld.2.2⟩
   clear hK K
   (try simp only [Act.put, putL])
   refine wpAnyH_ready (rs := [16]) (by kernel_rfl) (by simp) ?_
   refine AllReadyH.cons (o := _) rfl (fun K hK => ?_) ?_
   ·
    skip
    refine step_appS rfl _ _ Thsh rfl rfl o5 rfl (Sl.below (Sl.alloc (Sl.qt U2.out (qt_drew _)) (Nat.le_refl _) _) b5 (Nat.le_refl _)) (hcs_one _) hb2a (Nat.le_trans (base_alloc' (Nat.le_refl _) _) b5.size) ?_
    intro v6 w6 o6 b6
    refine hK.out _ _ ?_ (fun hHeld => ?_)
    · exact ⟨(b6.cell (p := ⟨K5, 0, none⟩) D_K5.out.lt).trans hHeld.1, (b6.cell (p := ⟨K5, 1, none⟩) D_K5.out.lt).trans hHeld.2.1, (b6.cell (p := ⟨K5, 2, none⟩) D_K5.out.lt).trans hHeld.2.2⟩
    clear hK K
    (try simp only [Act.put, putL])
    refine wpAnyH_take (i := 17) (oi := _) (v := ?_) rfl (by kernel_rfl) (by kernel_rfl) (by kernel_rfl) (fun _ _ _ h => h) (.inl ⟨by rfl, ?_⟩) (by assumption) ?_
    rotate_left
    · intro w hSw; obtain ⟨y0, y1, y2⟩ := hSw; go_simp; try (with_reducible rfl)
    (try simp only [Act.put, putL])
    refine wpAnyH_done (by kernel_rfl) ?_ _
    have e0 : 0 + kR + (na - kR) = na := by have := HK1.out; omega
    have e1 : [] ++ hcs (ha1.take kR) ++ hcs ((hb1.drop kR).take (na - kR)) = hcs (oth ha1 hb1 kR) := by unfold oth; rw [LA.out]; simp [hcs]
    rw [e0, e1] at o6
    obtain ⟨ot, hot⟩ : ∃ o, o = oth ha1 hb1 kR := ⟨_, rfl⟩
    rw [← hot] at o6
    have HOL : Hid (ot.length = na) := hid (by rw [hot, oth_len (by rw [LA.out]; exact HK1.out) (by rw [LA.out, LB.out]; exact HG.out.1)]; exact LA.out)
    obtain ⟨g, cg, rfl, hg1, hg2⟩ := own_form o6 (by have := HNA.out; omega)
    have B6 : Hid (Below w1.heap.size w1 w6) := hid (((Bl.qt (bel_new _ _) (qt_drew _)).trans b5).trans b6)
    have HOT := hid hot
    have O6 := hid o6
    have HG1 := hid hg1
    have HG2 := hid hg2
    clear hot o6 hg1 hg2 b5 b6 o5 e0 e1 hHeld U1 U2 hb1a hb2a
    go_wp2_with fail
    go_loopw [82] (fun iv wr => ∃ i : Nat, iv = .int .i64 (i : Int) ∧ i ≤ na ∧ Hid (wr.ownsRow w1.heap.size 42 2 (.slice (some ⟨g, 0, none⟩) na cg) na (hcs (mdK i ot))) ∧ Hid (Below w1.heap.size w1 wr)) (fun iv _ => na - (intOf iv).toNat)
    case atStart => exact ⟨0, rfl, Nat.zero_le _, hid (by rw [mdK_zero]; exact O6.out), B6⟩
    case round =>
     obtain ⟨i, rfl, hi, OW, BW⟩ := hrel
     by_cases hlt : i < na
     case pos =>
      have j0 : (i : Int) < (na : Int) := by omega
      have i0 : (0 : Int) ≤ (i : Int) := by omega
      have hil : i < ot.length := by rw [HOL.out]; exact hlt
      obtain ⟨p0, p1, f0, f1⟩ := own_hcells OW.out (j := i) (by rw [mdK_len]; exact hil)
      rw [mdK_at hil] at p0 p1
      obtain ⟨x, hx⟩ : ∃ x, x = (ot[i]'hil).1 := ⟨_, rfl⟩
      obtain ⟨y, hy⟩ : ∃ x, x = (ot[i]'hil).2 := ⟨_, rfl⟩
      rw [← hx] at p0
      rw [← hy] at p1
      have OW2 : Hid (((wr.setCell ⟨g, i * 2, none⟩ (.int .u64 ((x % 2305843009213693951 : Nat) : Int))).setCell ⟨g, i * 2 + 1, none⟩ (.int .u64 ((y % 2305843009213693951 : Nat) : Int))).ownsRow w1.heap.size 42 2 (.slice (some ⟨g, 0, none⟩) na cg) na (hcs (mdK (i + 1) ot))) := hid (by have := own_hput OW.out i (x % 2305843009213693951) (y % 2305843009213693951); rw [← mdK_next hil]; rw [hx, hy] at this ⊢; exact this)
      have BW2 : Hid (Below w1.heap.size w1 ((wr.setCell ⟨g, i * 2, none⟩ (.int .u64 ((x % 2305843009213693951 : Nat) : Int))).setCell ⟨g, i * 2 + 1, none⟩ (.int .u64 ((y % 2305843009213693951 : Nat) : Int)))) := hid ((BW.out.setCell (p := ⟨g, i * 2, none⟩) HG1.out _).setCell (p := ⟨g, i * 2 + 1, none⟩) HG1.out _)
      have t8 : (x : Int).tmod 2305843009213693951 = ((x % 2305843009213693951 : Nat) : Int) := (Int.ofNat_tmod x 2305843009213693951).symm
      have t9 : (y : Int).tmod 2305843009213693951 = ((y % 2305843009213693951 : Nat) : Int) := (Int.ofNat_tmod y 2305843009213693951).symm
      have s1 : ((x % 2305843009213693951 : Nat) : Int) = (x : Int) % 2305843009213693951 := Int.natCast_emod x 2305843009213693951
      have s2 : ((y % 2305843009213693951 : Nat) : Int) = (y : Int) % 2305843009213693951 := Int.natCast_emod y 2305843009213693951
      rw [s1, s2] at OW2 BW2
      clear hx hy
      go_wp2_with fail
      go_region
      have OW3 := hid OW2.out.drew
      have BW3 := hid (BW2.out.trans ((qt_drew _).below _))
      clear OW OW2 BW BW2 p0 p1 f0 f1
      have hna8 := HNA.out.2
      go_wp2
      go_roundw
      case rel => exact ⟨i + 1, by go_num, by omega, OW3, BW3⟩
      case measure => simp [intOf]; omega
     case neg =>
      have j0 : ¬ (i : Int) < (na : Int) := by omega
      have hin : i = ot.length := by rw [HOL.out]; omega
      rw [hin, mdK_all] at OW
      obtain ⟨ob, hob⟩ : ∃ o, o = ot.map md := ⟨_, rfl⟩
      have LOB : Hid (ob.length = na) := hid (by rw [hob, List.length_map]; exact HOL.out)
      rw [← hob] at OW
      have HOB : Hid (ob = (oth ha1 hb1 kR).map md) := hid (by rw [hob, HOT.out])
      clear hob hin
      replace S1 : Hid (Sl wr wr.heap.size 2 (.slice A1 na c1) ha1.length (hcs ha1)) := hid (by have := S1.out.call BW.out; rw [LA.out]; exact this)
      replace S3 := hid (S3.out.call BW.out)
      have SO : Hid (Sl wr wr.heap.size 2 (.slice (some ⟨g, 0, none⟩) na cg) ob.length (hcs ob)) := hid (by have := Sl.of_own OW.out; rw [LOB.out]; exact this)
      have RA : Hid (ha1.length ≤ 8796093022208) := hid (by rw [LA.out]; have := HNA.out; omega)
      have RB : Hid (ob.length ≤ 8796093022208) := hid (by rw [LOB.out]; have := HNA.out; omega)
      replace D_K5 := hid (D_K5.out.on BW.out)
      replace HB := hid (Bl.call HB.out BW.out)
      clear OW BW S2 O6 B6 HG1 HG2 HOL HOT LB HC1 HC2
      have n0 := D_K5.out.cell 0
      have n1 := D_K5.out.cell 1
      have n2 := D_K5.out.cell 2
      go_wp2_with fail
      refine (behind_yes S1.out RA.out S3.out HPA.out).mono ?_; rintro e w8 ⟨vh2, ve2, va2, rfl, gm2, b8⟩
      clear n0 n1 n2
      have HPB : Hid (GP n L R ob []) := hid ⟨HPA.out.n1, HPA.out.n2, HPA.out.l1, HPA.out.l2, HPA.out.r1, HPA.out.r2, by rw [LOB.out]; exact HG.out.2.2.2.2.2, by rw [HOB.out]; exact md_lt _, HPA.out.gd, HPA.out.el⟩
      have HTK : Hid (ha1.take (k * R) = ob.take (k * R)) := hid (by rw [HOB.out, ← HKR.out, oth_take (by rw [LA.out]; exact HK1.out) HPA.out.hh])
      obtain ⟨es1, hes1⟩ : ∃ es, es = actsF n L (Tp.Sof ha1 R (lvl n) L) (acts.take 30) := ⟨_, rfl⟩
      obtain ⟨es2, hes2⟩ : ∃ es, es = actsF n L (Tp.Sof ob R (lvl n) L) (acts.take 30) := ⟨_, rfl⟩
      rw [← hes1] at gm2
      have HP1 : Hid (GP n L R ha1 es1) := hid (by rw [hes1]; exact (gp_acts HPA.out (Tp.Sof_ok _ _ _ _) _ (by rw [List.length_take]; omega)).1)
      have HP2 : Hid (GP n L R ob es2) := hid (by rw [hes2]; exact (gp_acts HPB.out (Tp.Sof_ok _ _ _ _) _ (by rw [List.length_take]; omega)).1)
      have HLW : Hid (Tp.lowM k es1 = Tp.lowM k es2) := hid (by rw [hes1, hes2, actsF_P, actsF_P]; exact Tp.low_acts (by have := HPA.out.n1; omega) (Tp.Sof_ok _ _ _ _) (Tp.Sof_ok _ _ _ _) (Tp.Sof_end _ _ _ _) (Tp.Sof_end _ _ _ _) (by have := HPA.out.l2; omega) (by have := HKL.out; omega) (Tp.Sof_same HTK.out) _)
      have hn12 : n ≤ 12 := HPA.out.n2
      have hL4 : L ≤ 4 := HPA.out.l2
      have HES2 := hid hes2
      obtain ⟨A3, c3, A4, c4, rfl, rfl⟩ := gm2.lit
      have GM1 := hid gm2
      clear hes1 hes2 gm2
      replace S3 := hid (S3.out.call b8)
      replace SO := hid (SO.out.call b8)
      replace D_K5 := hid (D_K5.out.on b8)
      replace HB := hid (Bl.call HB.out b8)
      clear b8
      have bz := bel_new w8 (.cells #[.int .i64 (n : Int), .int .i64 (L : Int), .int .i64 (R : Int), .slice A3 ha1.length c3, .slice A4 es1.length c4] 28)
      obtain ⟨w9, hw9⟩ : ∃ W, W = w8.alloc (.cells #[.int .i64 (n : Int), .int .i64 (L : Int), .int .i64 (R : Int), .slice A3 ha1.length c3, .slice A4 es1.length c4] 28) := ⟨_, rfl⟩
      obtain ⟨K14, hK14⟩ : ∃ K, K = w8.heap.size := ⟨_, rfl⟩
      have D_K14 : Hid (Blk w9 K14 28 [.int .i64 (n : Int), .int .i64 (L : Int), .int .i64 (R : Int), .slice A3 ha1.length c3, .slice A4 es1.length c4]) := hid (by rw [hw9, hK14]; exact Blk.new _ _ _)
      rw [← hw9] at bz
      replace S3 := hid (S3.out.call bz)
      replace SO := hid (SO.out.call bz)
      replace GM1 := hid (GM1.out.call bz)
      replace D_K5 := hid (D_K5.out.on bz)
      replace HB := hid (Bl.call HB.out bz)
      have HW_w9 := hid hw9
      have HK_K14 := hid hK14
      clear bz hw9 hK14
      go_upto_region 11 with (fail)
      rw [← HW_w9.out, ← HK_K14.out]
      have n0 := D_K5.out.cell 0
      have n1 := D_K5.out.cell 1
      have n2 := D_K5.out.cell 2
      go_wp2_with fail
      refine (behind_yes SO.out RB.out S3.out HPB.out).mono ?_; rintro e w10 ⟨vh3, ve3, va3, rfl, gm3, b10⟩
      clear n0 n1 n2
      rw [← HES2.out] at gm3
      obtain ⟨A5, c5, A6, c6, rfl, rfl⟩ := gm3.lit
      have GM2 := hid gm3
      clear gm3
      replace GM1 := hid (GM1.out.call b10)
      replace D_K5 := hid (D_K5.out.on b10)
      replace D_K14 := hid (D_K14.out.on b10)
      replace HB := hid (Bl.call HB.out b10)
      clear b10 SO S3 S1
      have bz := bel_new w10 (.cells #[.int .i64 (n : Int), .int .i64 (L : Int), .int .i64 (R : Int), .slice A5 ob.length c5, .slice A6 es2.length c6] 28)
      obtain ⟨w11, hw11⟩ : ∃ W, W = w10.alloc (.cells #[.int .i64 (n : Int), .int .i64 (L : Int), .int .i64 (R : Int), .slice A5 ob.length c5, .slice A6 es2.length c6] 28) := ⟨_, rfl⟩
      obtain ⟨K17, hK17⟩ : ∃ K, K = w10.heap.size := ⟨_, rfl⟩
      have D_K17 : Hid (Blk w11 K17 28 [.int .i64 (n : Int), .int .i64 (L : Int), .int .i64 (R : Int), .slice A5 ob.length c5, .slice A6 es2.length c6]) := hid (by rw [hw11, hK17]; exact Blk.new _ _ _)
      rw [← hw11] at bz
      replace GM1 := hid (GM1.out.call bz)
      replace GM2 := hid (GM2.out.call bz)
      replace D_K5 := hid (D_K5.out.on bz)
      replace D_K14 := hid (D_K14.out.on bz)
      replace HB := hid (Bl.call HB.out bz)
      have HW_w11 := hid hw11
      have HK_K17 := hid hK17
      clear bz hw11 hK17
      go_upto_region 12 with (fail)
      rw [← HW_w11.out, ← HK_K17.out]
      have n0 := D_K5.out.cell 0
      go_wp2_with fail
      go_loopw [131] (fun iv wr => ∃ v : Nat, iv = .int .i64 (v : Int) ∧ v ≤ n ∧ Hid (Below w11.heap.size w11 wr)) (fun iv _ => n - (intOf iv).toNat)
      case atStart => exact ⟨0, rfl, Nat.zero_le _, hid (Below.refl _ _)⟩
      case round =>
       clear n0
       obtain ⟨v, rfl, hv, HBr⟩ := hrel
       by_cases hvn : v < n
       case pos =>
        have j1 : (v : Int) < (n : Int) := by omega
        have v0 : (0 : Int) ≤ (v : Int) := by omega
        have q5 : IntKind.i64.wrap ((k : Int) + 1) = (k : Int) + 1 := by rw [IntKind.wrap_i64]; omega
        go_wp2_with fail
        go_loopw [136] (fun iv wr2 => ∃ t : Nat, iv = .int .i64 (t : Int) ∧ t ≤ k + 1 ∧ Hid (Below w11.heap.size w11 wr2)) (fun iv _ => k + 1 - (intOf iv).toNat)
        case atStart => exact ⟨0, rfl, Nat.zero_le _, HBr⟩
        case round =>
         clear HBr
         obtain ⟨t, rfl, ht, HBr⟩ := hrel
         by_cases htl : t < k + 1
         case pos =>
          have j2 : (t : Int) < (k : Int) + 1 := by omega
          have t0 : (0 : Int) ≤ (t : Int) := by omega
          have D1 := hid (D_K14.out.on HBr.out)
          have D2 := hid (D_K17.out.on HBr.out)
          have M1r := hid (GM1.out.call HBr.out)
          have M2r := hid (GM2.out.call HBr.out)
          obtain ⟨T, hT⟩ : ∃ T, T = Tp.treeL n es1 t v := ⟨_, rfl⟩
          have hT2 : T = Tp.treeL n es2 t v := by rw [hT]; exact Tp.low_tree (L := L) HLW.out (by omega) _
          have HSM : Hid (sameB T T = true) := hid (by simp [sameB])
          have HT1 := hid hT
          have HT2 := hid hT2
          clear hT hT2
          have HTA : Hid (∀ {w : World}, GM w (.slice A3 ha1.length c3) (.slice A4 es1.length c4) ha1 es1 → Calls Tryz.prog 7 #[grV n L R (.slice A3 ha1.length c3) (.slice A4 es1.length c4), .int .i64 (t : Int), .int .i64 (v : Int)] w (TreePost T w)) := hid (fun hm => by rw [HT1.out]; exact sTree_ok hm HP1.out (by omega) (by omega) (by omega) (by omega))
          have HTB : Hid (∀ {w : World}, GM w (.slice A5 ob.length c5) (.slice A6 es2.length c6) ob es2 → Calls Tryz.prog 7 #[grV n L R (.slice A5 ob.length c5) (.slice A6 es2.length c6), .int .i64 (t : Int), .int .i64 (v : Int)] w (TreePost T w)) := hid (fun hm => by rw [HT2.out]; exact sTree_ok hm HP2.out (by omega) (by omega) (by omega) (by omega))
          have g0 := D1.out.cell 0
          have g1 := D1.out.cell 1
          have g2 := D1.out.cell 2
          have g3 := D1.out.cell 3
          have g4 := D1.out.cell 4
          have h0 := D2.out.cell 0
          have h1 := D2.out.cell 1
          have h2 := D2.out.cell 2
          have h3 := D2.out.cell 3
          have h4 := D2.out.cell 4
          go_wp2_with fail
          go_region_held3 (fun w' => w'.cell? ⟨K14, 0, none⟩ = some (.int .i64 (n : Int)) ∧ w'.cell? ⟨K14, 1, none⟩ = some (.int .i64 (L : Int)) ∧ w'.cell? ⟨K14, 2, none⟩ = some (.int .i64 (R : Int)) ∧ w'.cell? ⟨K14, 3, none⟩ = some (.slice A3 ha1.length c3) ∧ w'.cell? ⟨K14, 4, none⟩ = some (.slice A4 es1.length c4) ∧ w'.cell? ⟨K17, 0, none⟩ = some (.int .i64 (n : Int)) ∧ w'.cell? ⟨K17, 1, none⟩ = some (.int .i64 (L : Int)) ∧ w'.cell? ⟨K17, 2, none⟩ = some (.int .i64 (R : Int)) ∧ w'.cell? ⟨K17, 3, none⟩ = some (.slice A5 ob.length c5) ∧ w'.cell? ⟨K17, 4, none⟩ = some (.slice A6 es2.length c6))
           (first | go_keep | (go_split_ands; and_intros <;> (first | (refine cell_later (by assumption) ?_; first | assumption | (rw [Qt.cell (qt_of _ _)]; assumption) | (rw [Qt.cell (qt_drew _)]; assumption)) | (refine cell_later (bel_new _ _) ?_; assumption) | (rw [Qt.cell (by assumption)]; first | assumption | (rw [Qt.cell (qt_of _ _)]; assumption) | (rw [Qt.cell (qt_drew _)]; assumption)))))
           (first | (go_at_call 7; (with_reducible refine (HTA.out (by repeat (first | exact M1r.out | refine GM.new ?_ _ | refine GM.cqt ?_ (qt_drew _) | refine GM.cqt ?_ (qt_of _ _) | refine GM.call ?_ (by assumption) | refine GM.cqt ?_ (by assumption)))).mono ?_); rintro e wz ⟨vx, rfl, sx, bx⟩; obtain ⟨Ax, cx, hvx, _, _, _, _⟩ := id sx; subst hvx) | (go_at_call 7; (with_reducible refine (HTB.out (by repeat (first | exact M2r.out | refine GM.new ?_ _ | refine GM.cqt ?_ (qt_drew _) | refine GM.cqt ?_ (qt_of _ _) | refine GM.call ?_ (by assumption) | refine GM.cqt ?_ (by assumption)))).mono ?_); rintro e wz ⟨vy, rfl, sy, by_⟩; obtain ⟨Ay, cy, hvy, _, _, _, _⟩ := id sy; subst hvy) | (go_at_call 9; (with_reducible refine (same_tp true HSM.out (by repeat (first | exact sx | refine Sl.new ?_ _ | refine Sl.cqt ?_ (qt_drew _) | refine Sl.cqt ?_ (qt_of _ _) | refine Sl.call ?_ (by assumption) | refine Sl.cqt ?_ (by assumption))) (by repeat (first | exact sy | refine Sl.new ?_ _ | refine Sl.cqt ?_ (qt_drew _) | refine Sl.cqt ?_ (qt_of _ _) | refine Sl.call ?_ (by assumption) | refine Sl.cqt ?_ (by assumption)))).mono ?_); rintro e wz ⟨rfl, bq⟩))
          all_goals
           have HBA : Below wr.heap.size wr wz := by repeat (first | exact Below.refl _ _ | refine Bl.call ?_ (by assumption) | refine Bl.qt ?_ (by assumption) | refine Bl.qt ?_ (qt_drew _) | refine Bl.qt ?_ (qt_of _ _))
           replace D1 := hid (D1.out.on HBA)
           replace D2 := hid (D2.out.on HBA)
           replace M1r := hid (M1r.out.call HBA)
           replace M2r := hid (M2r.out.call HBA)
           replace HBr := hid (HBr.out.trans (HBA.mono HBr.out.size))
           clear HBA g0 g1 g2 g3 g4 h0 h1 h2 h3 h4
           have g0 := D1.out.cell 0
           have g1 := D1.out.cell 1
           have g2 := D1.out.cell 2
           have g3 := D1.out.cell 3
           have g4 := D1.out.cell 4
           have h0 := D2.out.cell 0
           have h1 := D2.out.cell 1
           have h2 := D2.out.cell 2
           have h3 := D2.out.cell 3
           have h4 := D2.out.cell 4
           by_cases htk : t < k
           case pos =>
            have j3 : (t : Int) < (k : Int) := by omega
            have htL : t < L := by have := HKL.out; omega
            obtain ⟨Ws, hWs⟩ : ∃ W, W = Tp.wsP (Tp.hsOf ha1 R t) R (lvl n) (Pt.uv (Tp.cutL es1 (Tp.treeL n es1 t v))) := ⟨_, rfl⟩
            have hWs2 : Ws = Tp.wsP (Tp.hsOf ob R t) R (lvl n) (Pt.uv (Tp.cutL es2 (Tp.treeL n es2 t v))) := by rw [hWs, ← HT1.out, ← HT2.out, hsOf_same HTK.out htk, Tp.low_cut HLW.out]
            have HWA : Hid (∀ {w : World}, GM w (.slice A3 ha1.length c3) (.slice A4 es1.length c4) ha1 es1 → Calls Tryz.prog 11 #[grV n L R (.slice A3 ha1.length c3) (.slice A4 es1.length c4), .int .i64 (t : Int), .int .i64 (v : Int)] w (WPost (R * lvl n) Ws w)) := hid (fun hm => by rw [hWs]; exact sWords_ok hm HP1.out htL (by omega) (by omega))
            have HWB : Hid (∀ {w : World}, GM w (.slice A5 ob.length c5) (.slice A6 es2.length c6) ob es2 → Calls Tryz.prog 11 #[grV n L R (.slice A5 ob.length c5) (.slice A6 es2.length c6), .int .i64 (t : Int), .int .i64 (v : Int)] w (WPost (R * lvl n) Ws w)) := hid (fun hm => by rw [hWs2]; exact sWords_ok hm HP2.out htL (by omega) (by omega))
            clear hWs hWs2 HTA HTB
            go_wp2_with fail
            go_region_held3 (fun w' => w'.cell? ⟨K14, 0, none⟩ = some (.int .i64 (n : Int)) ∧ w'.cell? ⟨K14, 1, none⟩ = some (.int .i64 (L : Int)) ∧ w'.cell? ⟨K14, 2, none⟩ = some (.int .i64 (R : Int)) ∧ w'.cell? ⟨K14, 3, none⟩ = some (.slice A3 ha1.length c3) ∧ w'.cell? ⟨K14, 4, none⟩ = some (.slice A4 es1.length c4) ∧ w'.cell? ⟨K17, 0, none⟩ = some (.int .i64 (n : Int)) ∧ w'.cell? ⟨K17, 1, none⟩ = some (.int .i64 (L : Int)) ∧ w'.cell? ⟨K17, 2, none⟩ = some (.int .i64 (R : Int)) ∧ w'.cell? ⟨K17, 3, none⟩ = some (.slice A5 ob.length c5) ∧ w'.cell? ⟨K17, 4, none⟩ = some (.slice A6 es2.length c6))
             (first | go_keep | (go_split_ands; and_intros <;> (first | (refine cell_later (by assumption) ?_; first | assumption | (rw [Qt.cell (qt_of _ _)]; assumption) | (rw [Qt.cell (qt_drew _)]; assumption)) | (refine cell_later (bel_new _ _) ?_; assumption) | (rw [Qt.cell (by assumption)]; first | assumption | (rw [Qt.cell (qt_of _ _)]; assumption) | (rw [Qt.cell (qt_drew _)]; assumption)))))
             (first | (go_at_call 11; (with_reducible refine (HWA.out (by repeat (first | exact M1r.out | refine GM.new ?_ _ | refine GM.cqt ?_ (qt_drew _) | refine GM.cqt ?_ (qt_of _ _) | refine GM.call ?_ (by assumption) | refine GM.cqt ?_ (by assumption)))).mono ?_); rintro e wz ⟨vx, rfl, sx, bx⟩; obtain ⟨Ax, cx, hvx, _, _, _, _⟩ := id sx; subst hvx) | (go_at_call 11; (with_reducible refine (HWB.out (by repeat (first | exact M2r.out | refine GM.new ?_ _ | refine GM.cqt ?_ (qt_drew _) | refine GM.cqt ?_ (qt_of _ _) | refine GM.call ?_ (by assumption) | refine GM.cqt ?_ (by assumption)))).mono ?_); rintro e wz ⟨vy, rfl, sy, by_⟩; obtain ⟨Ay, cy, hvy, _, _, _, _⟩ := id sy; subst hvy) | (go_at_call 10; (with_reducible refine (wsame (by repeat (first | exact sx | refine Sl.new ?_ _ | refine Sl.cqt ?_ (qt_drew _) | refine Sl.cqt ?_ (qt_of _ _) | refine Sl.call ?_ (by assumption) | refine Sl.cqt ?_ (by assumption))) (by repeat (first | exact sy | refine Sl.new ?_ _ | refine Sl.cqt ?_ (qt_drew _) | refine Sl.cqt ?_ (qt_of _ _) | refine Sl.call ?_ (by assumption) | refine Sl.cqt ?_ (by assumption)))).mono ?_); rintro e wz ⟨rfl, bq⟩))
            all_goals
             have HB5 : Hid (Below w11.heap.size w11 wz) := hid (by repeat (first | exact HBr.out | refine Bl.call ?_ (by assumption) | refine Bl.qt ?_ (by assumption) | refine Bl.qt ?_ (qt_drew _) | refine Bl.qt ?_ (qt_of _ _)))
             clear g0 g1 g2 g3 g4 h0 h1 h2 h3 h4
             go_wp2_with fail
             go_roundw
             case rel => exact ⟨t + 1, by go_num, by omega, HB5⟩
             case measure => simp [intOf]; omega
           case neg =>
            have j3 : ¬ (t : Int) < (k : Int) := by omega
            have j4 : decide ((t : Int) < (k : Int)) = false := by simp; omega
            clear HTA HTB
            go_wp2_with fail
            go_quiet (fail)
            clear g0 g1 g2 g3 g4 h0 h1 h2 h3 h4
            go_wp2_with fail
            go_roundw
            case rel => exact ⟨t + 1, by go_num, by omega, hid (HBr.out.trans ((qt_of _ _).below _))⟩
            case measure => simp [intOf]; omega
         case neg =>
          have j2 : ¬ (t : Int) < (k : Int) + 1 := by omega
          go_wp2_with fail
          go_roundw
          case rel => exact ⟨v + 1, by go_num, by omega, HBr⟩
          case measure => simp [intOf]; omega
       case neg =>
        have j1 : ¬ (v : Int) < (n : Int) := by omega
        go_wp2_with fail
        refine (awake_ok _).mono ?_; rintro e w12 ⟨rfl, b12⟩
        have HB9 := hid (Bl.call (HB.out.trans (HBr.out.mono HB.out.size)) b12)
        clear b12
        go_wp2
        go_ret
        exact ⟨rfl, HB9.out⟩
   exact AllReadyH.nil
  exact AllReadyH.nil
 exact AllReadyH.nil
set_option maxRecDepth 100000
theorem topSeeds_walk (N L R : Int) (v1 : Value) (na : Nat) (ha1 : List (Nat × Nat)) (v2 : Value) (nb : Nat) (hb1 : List (Nat × Nat)) (va : Value) (m : Nat) (acts : List (Bool × Int × Int)) (l : Int) (w : World) (h1 : Sl w w.heap.size 2 v1 na (hcs ha1)) (h2 : Sl w w.heap.size 2 v2 nb (hcs hb1)) (h3 : Sl w w.heap.size 3 va m (atc acts)) (hl : 0 ≤ l ∧ l ≤ 255) :
  Calls Tryz.prog 4 #[.agg #[.int .i64 N, .int .i64 L, .int .i64 R], v1, v2, va, .int .u8 l] w (IsTrue w) := by
 obtain ⟨A1, c1, rfl, _⟩ := id h1
 obtain ⟨A2, c2, rfl, _⟩ := id h2
 by_cases g1 : nb < na
 · exact td_no1 g1
 by_cases g2 : L < 1
 · exact td_no2 g1 g2
 by_cases g3 : R < 1
 · exact td_no3 g1 g2 g3
 by_cases g4 : 16 < L
 · exact td_no4 g1 g2 g3 g4
 by_cases g5 : 8 < R
 · exact td_no5 g1 g2 g3 g4 g5
 by_cases g6 : (na : Int) = L * R
 ·
  obtain ⟨L, rfl⟩ := Int.eq_ofNat_of_zero_le (show 0 ≤ L by omega)
  obtain ⟨R, rfl⟩ := Int.eq_ofNat_of_zero_le (show 0 ≤ R by omega)
  obtain ⟨l, rfl⟩ := Int.eq_ofNat_of_zero_le hl.1
  have e6 : na = L * R := by exact_mod_cast g6
  by_cases hf : FewOk N L R
  ·
   by_cases hg : GR N L R (hz ha1) []
   ·
    have hp := gp_new hf hg
    obtain ⟨⟨a1, a2⟩, ⟨b1, b2⟩, c1, c2⟩ := hf
    obtain ⟨n, rfl⟩ := Int.eq_ofNat_of_zero_le (show 0 ≤ N by omega)
    simp only [Int.toNat_natCast] at hp
    exact td_yes h1 h2 h3 (by omega) (by omega) (by omega) (by omega) (by omega) e6 (by omega) hp
   · exact td_no7 h1 h2 h3 (by omega) (by omega) (by omega) (by omega) (by omega) e6 (by omega) (.inr hg)
  · exact td_no7 h1 h2 h3 (by omega) (by omega) (by omega) (by omega) (by omega) e6 (by omega) (.inl hf)
 · exact td_no6 g1 g2 g3 g4 g5 g6
end Go.Proofs.YtahodfikhocobaaGreatDoor
