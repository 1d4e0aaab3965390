/- The texts AwX, AwY, TsO, merged. No theorem here is a claim by itself. -/
import Derived.Test.YtahodfikhocobaaGreatDoorMa11
import Derived.Test.YtahodfikhocobaaGreatDoorMa1
import Derived.Test.YtahodfikhocobaaGreatDoorMa8
import Derived.SizedLaws
import Derived.OpenShut
namespace Go.Proofs.YtahodfikhocobaaGreatDoor
open Go.RowKit
set_option linter.unusedVariables false
set_option linter.unusedSimpArgs false
attribute [local go_sem ↓] Go.wp_at_zero Go.wp_at_succ
theorem plainA : Aw.Plain textA := by
  intro i hi
  have h := plain_A i hi
  simp only [Bool.or_eq_true, beq_iff_eq] at h
  rcases h with (h | h) | h
  · exact .inl h
  · exact .inr (.inl h)
  · exact .inr (.inr h)
theorem list9 {α : Type} {l : List α} (h : l.length = 9) : ∃ a b c d e f g h i, l = [a, b, c, d, e, f, g, h, i] := by
  match l, h with
  | [a, b, c, d, e, f, g, h, i], _ => exact ⟨a, b, c, d, e, f, g, h, i, rfl⟩
/-- The lines' words in memory. -/
def LnsM (w : World) (AL : Option Addr) (cL : Nat) (L0 L1 L2 L3 L4 L5 L6 L7 L8 : Option Addr) (d0 d1 d2 d3 d4 d5 d6 d7 d8 : Nat) : Prop :=
  Sl w w.heap.size 1 (.slice AL 9 cL) 9 [.slice L0 4 d0, .slice L1 2 d1, .slice L2 2 d2, .slice L3 2 d3, .slice L4 3 d4, .slice L5 3 d5, .slice L6 3 d6, .slice L7 1 d7, .slice L8 2 d8] ∧ Sl w w.heap.size 1 (.slice L0 4 d0) 4 (strs (linesA[0]'(by decide))) ∧ Sl w w.heap.size 1 (.slice L1 2 d1) 2 (strs (linesA[1]'(by decide))) ∧ Sl w w.heap.size 1 (.slice L2 2 d2) 2 (strs (linesA[2]'(by decide))) ∧ Sl w w.heap.size 1 (.slice L3 2 d3) 2 (strs (linesA[3]'(by decide))) ∧ Sl w w.heap.size 1 (.slice L4 3 d4) 3 (strs (linesA[4]'(by decide))) ∧ Sl w w.heap.size 1 (.slice L5 3 d5) 3 (strs (linesA[5]'(by decide))) ∧ Sl w w.heap.size 1 (.slice L6 3 d6) 3 (strs (linesA[6]'(by decide))) ∧ Sl w w.heap.size 1 (.slice L7 1 d7) 1 (strs (linesA[7]'(by decide))) ∧ Sl w w.heap.size 1 (.slice L8 2 d8) 2 (strs (linesA[8]'(by decide)))
theorem lines_A (w : World) : Calls Tryz.prog 36 #[.string textA] w fun e w' => ∃ AL cL L0 L1 L2 L3 L4 L5 L6 L7 L8 d0 d1 d2 d3 d4 d5 d6 d7 d8, e = .returned (.tuple #[.slice AL 9 cL, .int .i64 0, .int .i64 0]) ∧ LnsM w' AL cL L0 L1 L2 L3 L4 L5 L6 L7 L8 d0 d1 d2 d3 d4 d5 d6 d7 d8 ∧ Below w.heap.size w w' := by
  refine (lines_ok textA (by decide) plainA w).mono ?_
  intro e w' hp
  rw [fin_A] at hp
  obtain ⟨v, vs, rfl, hlen, hL, hj, hb⟩ := hp
  obtain ⟨x0, x1, x2, x3, x4, x5, x6, x7, x8, rfl⟩ := list9 (show vs.length = 9 from hlen)
  have s0 : Sl w' w'.heap.size 1 x0 4 (strs (linesA[0]'(by decide))) := hj 0 (by simp) (by decide)
  have s1 : Sl w' w'.heap.size 1 x1 2 (strs (linesA[1]'(by decide))) := hj 1 (by simp) (by decide)
  have s2 : Sl w' w'.heap.size 1 x2 2 (strs (linesA[2]'(by decide))) := hj 2 (by simp) (by decide)
  have s3 : Sl w' w'.heap.size 1 x3 2 (strs (linesA[3]'(by decide))) := hj 3 (by simp) (by decide)
  have s4 : Sl w' w'.heap.size 1 x4 3 (strs (linesA[4]'(by decide))) := hj 4 (by simp) (by decide)
  have s5 : Sl w' w'.heap.size 1 x5 3 (strs (linesA[5]'(by decide))) := hj 5 (by simp) (by decide)
  have s6 : Sl w' w'.heap.size 1 x6 3 (strs (linesA[6]'(by decide))) := hj 6 (by simp) (by decide)
  have s7 : Sl w' w'.heap.size 1 x7 1 (strs (linesA[7]'(by decide))) := hj 7 (by simp) (by decide)
  have s8 : Sl w' w'.heap.size 1 x8 2 (strs (linesA[8]'(by decide))) := hj 8 (by simp) (by decide)
  clear hj hlen
  obtain ⟨AL, cL, rfl, _⟩ := id hL
  obtain ⟨L0, d0, rfl, _⟩ := id s0
  obtain ⟨L1, d1, rfl, _⟩ := id s1
  obtain ⟨L2, d2, rfl, _⟩ := id s2
  obtain ⟨L3, d3, rfl, _⟩ := id s3
  obtain ⟨L4, d4, rfl, _⟩ := id s4
  obtain ⟨L5, d5, rfl, _⟩ := id s5
  obtain ⟨L6, d6, rfl, _⟩ := id s6
  obtain ⟨L7, d7, rfl, _⟩ := id s7
  obtain ⟨L8, d8, rfl, _⟩ := id s8
  exact ⟨AL, cL, L0, L1, L2, L3, L4, L5, L6, L7, L8, d0, d1, d2, d3, d4, d5, d6, d7, d8, rfl, ⟨hL, s0, s1, s2, s3, s4, s5, s6, s7, s8⟩, hb⟩
def SesI (i : Nat) (Aw : Option Addr) (cw : Nat) (w : World) (KS B : Nat) (vb : Value) : Prop :=
  match i with
  | 0 => Blk w KS 87 [.int .i64 0, .int .i64 0, .int .i64 0, .slice none 0 0, .slice none 0 0, .slice none 0 0, .slice Aw 4 cw, .int .i64 0, .bool false]
  | 1 => SesN 0 [] sA0 Aw cw w KS B vb
  | 2 => SesN 0 [] sA1 Aw cw w KS B vb
  | 3 => SesN 0 [] sA2 Aw cw w KS B vb
  | 4 => SesN 0 [] sA3 Aw cw w KS B vb
  | _ => SesN 1 eA sA3 Aw cw w KS B vb
def outI (i : Nat) : List UInt8 :=
  match i with
  | 0 => []
  | 1 => [111, 107, 10]
  | 2 => [111, 107, 10, 111, 107, 10]
  | 3 => [111, 107, 10, 111, 107, 10, 111, 107, 10]
  | 4 => [111, 107, 10, 111, 107, 10, 111, 107, 10, 111, 107, 10]
  | 5 => [111, 107, 10, 111, 107, 10, 111, 107, 10, 111, 107, 10, 111, 107, 10]
  | 6 => [111, 107, 10, 111, 107, 10, 111, 107, 10, 111, 107, 10, 111, 107, 10, 121, 101, 115, 10]
  | 7 => [111, 107, 10, 111, 107, 10, 111, 107, 10, 111, 107, 10, 111, 107, 10, 121, 101, 115, 10, 110, 111, 10]
  | 8 => [111, 107, 10, 111, 107, 10, 111, 107, 10, 111, 107, 10, 111, 107, 10, 121, 101, 115, 10, 110, 111, 10, 121, 101, 115, 10]
  | _ => [111, 107, 10, 111, 107, 10, 111, 107, 10, 111, 107, 10, 111, 107, 10, 121, 101, 115, 10, 110, 111, 10, 121, 101, 115, 10, 50, 10]
def BuJ (i : Nat) (w : World) (B : Nat) (vb : Value) : Prop := if i = 0 then BuI (.pointer none) [] w B vb ∧ vb = .slice none 0 0 else BuI (.pointer (some ⟨B, 0, none⟩)) (outI i) w B vb
set_option maxHeartbeats 64000000 in
set_option maxRecDepth 100000 in
theorem run_A {Aw : Option Addr} {cw : Nat} {w : World} (hw : Sl w w.heap.size 1 (.slice Aw 4 cw) 4 (us [7, 1, 9, 2])) : Calls Tryz.prog 18 #[.string textA, .slice Aw 4 cw] w fun e w' => e = .returned (.string ⟨(outI 9).toArray⟩) ∧ Below w.heap.size w w' := by
  have SW := hid hw
  clear hw
  go_enter Tryz.func18, Tryz.ntmps18
  go_wp2_with fail
  refine (lines_A _).mono ?_; rintro e w1 ⟨AL, cL, L0, L1, L2, L3, L4, L5, L6, L7, L8, d0, d1, d2, d3, d4, d5, d6, d7, d8, rfl, hLN, b1⟩
  have LN := hid hLN
  have HB1 := hid b1
  replace SW := hid (SW.out.call b1)
  clear hLN b1
  go_upto_region 6 with (fail)
  obtain ⟨w2, hw2⟩ : ∃ W, W = w1.alloc (.cells #[.int .i64 0, .int .i64 0, .int .i64 0, .slice none 0 0, .slice none 0 0, .slice none 0 0, .slice Aw 4 cw, .int .i64 0, .bool false] 87) := ⟨_, rfl⟩
  obtain ⟨KS, hKS⟩ : ∃ K, K = w1.heap.size := ⟨_, rfl⟩
  obtain ⟨w3, hw3⟩ : ∃ W, W = w2.alloc (.cells #[.pointer none, .slice none 0 0] 91) := ⟨_, rfl⟩
  obtain ⟨KB, hKB⟩ : ∃ K, K = KS + 1 := ⟨_, rfl⟩
  have hz2 : w2.heap.size = KS + 1 := by rw [hw2, hKS]; simp
  have DS : Hid (Blk w3 KS 87 [.int .i64 0, .int .i64 0, .int .i64 0, .slice none 0 0, .slice none 0 0, .slice none 0 0, .slice Aw 4 cw, .int .i64 0, .bool false]) := hid (by rw [hw3, hw2, hKS]; exact (Blk.new _ _ _).alloc _)
  have DB : Hid (Blk w3 KB 91 [.pointer none, .slice none 0 0]) := hid (by rw [hw3, hKB, ← hz2]; exact Blk.new _ _ _)
  have HL : Hid (Below w1.heap.size w1 w3) := hid (by rw [hw3, hw2]; exact Bl.new (bel_new _ _) _)
  rw [← hw2, ← hKS, ← hKB, ← hw3]
  have LOS : Hid (w1.heap.size ≤ KS ∧ KS < KB) := hid (by omega)
  clear hw2 hw3 hKS hKB hz2
  go_wp2_with fail
  go_loopw [34] (fun iv wr => ∃ (i : Nat) (vb : Value), iv = .int .i64 (i : Int) ∧ i ≤ 9 ∧ Hid (SesI i Aw cw wr KS KB vb) ∧ Hid (BuJ i wr KB vb) ∧ Hid (Below w1.heap.size w1 wr)) (fun iv _ => 9 - (intOf iv).toNat)
  case atStart => exact ⟨0, _, rfl, by omega, DS, hid (by unfold BuJ; rw [if_pos rfl]; exact ⟨⟨DB.out, World.ownsRow_nil _ _ _ _⟩, rfl⟩), HL⟩
  case round =>
    clear DS DB HL
    obtain ⟨i, vb, rfl, hi, HS, HU, HL⟩ := hrel
    obtain ⟨_, _, he, _, _, _, hx⟩ := LN.out.1.call HL.out
    injection he with e1 e2 e3
    subst e1 e3
    obtain ⟨bL, oL, rfl, hbL, hcL⟩ := hx (by omega)
    have HC := hid hcL
    clear hx hcL hbL
    by_cases h0 : i = 0
    case pos =>
      subst h0
      have x0 : wr.cell? ⟨bL, oL, none⟩ = some (.slice L0 4 d0) := HC.out 0 _ rfl
      have LK := hid (LN.out.2.1.call HL.out)
      have DS : Hid (Blk wr KS 87 [.int .i64 0, .int .i64 0, .int .i64 0, .slice none 0 0, .slice none 0 0, .slice none 0 0, .slice Aw 4 cw, .int .i64 0, .bool false]) := HS
      clear HS
      have HU2 : Hid (BuI (.pointer none) [] wr KB vb ∧ vb = .slice none 0 0) := hid (by have := HU.out; unfold BuJ at this; rw [if_pos rfl] at this; exact this)
      obtain ⟨hu2, rfl⟩ := HU2.out
      have HU3 := hid hu2
      clear HU HU2 hu2
      have g0 := DS.out.cell 0
      have g1 := DS.out.cell 1
      have g2 := DS.out.cell 2
      have g3 := DS.out.cell 3
      have g4 := DS.out.cell 4
      have g5 := DS.out.cell 5
      have g6 := DS.out.cell 6
      have g7 := DS.out.cell 7
      have g8 := DS.out.cell 8
      have LT : Hid (KS < wr.heap.size ∧ KB < wr.heap.size) := hid ⟨DS.out.lt, HU3.out.1.lt⟩
      go_wp2_with fail
      refine (line_new (SW.out.call HL.out) LK.out).mono ?_; rintro e w4 ⟨A1, c1, A3, c3, rfl, sm, oN, b4⟩
      clear g0 g1 g2 g3 g4 g5 g6 g7 g8 x0
      obtain ⟨w5, hw5⟩ : ∃ W, W = put9 w4 KS (.int .i64 3) (.int .i64 2) (.int .i64 1) (.slice A1 2 c1) (.slice none 0 0) (.slice A3 3 c3) (.slice Aw 4 cw) (.int .i64 4) (.bool true) := ⟨_, rfl⟩
      have DS4 := hid (DS.out.on b4)
      have HN : Hid (SesN 0 [] sA0 Aw cw w5 KS KB (.slice none 0 0)) := hid (by rw [hw5]; exact ses_put DS4.out sm ⟨(oN KS LT.out.1).1, off_zero, (oN KS LT.out.1).2⟩ ⟨clear_new HU3.out (fun K hK => (oN K hK).1), clear_zero, clear_new HU3.out (fun K hK => (oN K hK).2)⟩)
      have HU5 := hid ((HU3.out.call b4).put LOS.out.2 (a := .int .i64 3) (b := .int .i64 2) (c := .int .i64 1) (d := .slice A1 2 c1) (e := .slice none 0 0) (f := .slice A3 3 c3) (g := .slice Aw 4 cw) (h := .int .i64 4) (i := .bool true))
      rw [← hw5] at HU5
      have HL5 : Hid (Below w1.heap.size w1 w5) := hid (by rw [hw5]; exact put9_bel (Bl.call HL.out b4) LOS.out.1)
      have HW5 := hid hw5
      clear hw5 b4 sm oN DS HU3 HL LK LT
      have g0 := DS4.out.cell 0
      have g1 := DS4.out.cell 1
      have g2 := DS4.out.cell 2
      have g3 := DS4.out.cell 3
      have g4 := DS4.out.cell 4
      have g5 := DS4.out.cell 5
      have g6 := DS4.out.cell 6
      have g7 := DS4.out.cell 7
      have g8 := DS4.out.cell 8
      have f0 := DS4.out.frozen 0
      have f1 := DS4.out.frozen 1
      have f2 := DS4.out.frozen 2
      have f3 := DS4.out.frozen 3
      have f4 := DS4.out.frozen 4
      have f5 := DS4.out.frozen 5
      have f6 := DS4.out.frozen 6
      have f7 := DS4.out.frozen 7
      have f8 := DS4.out.frozen 8
      unfold seN
      go_wp2_with fail
      have HW6 := HW5.out
      unfold put9 at HW6
      rw [← HW6]
      clear HW6 HW5 DS4 g0 f0 g1 f1 g2 f2 g3 f3 g4 f4 g5 f5 g6 f6 g7 f7 g8 f8
      refine (wstr_fresh (s := ⟨#[111, 107]⟩) HU5.out.1 (by decide)).mono ?_; rintro e w6 ⟨v6, rfl, d6, o6, wr6⟩
      have D6 := hid d6
      have O6 := hid o6
      have W6 := hid wr6
      clear d6 o6 wr6
      go_wp2_with fail
      refine (wbyte_ok D6.out O6.out (by decide)).mono ?_; rintro e w7 ⟨v7, rfl, d7, o7, wr7⟩
      have WT := hid (W6.out.trans wr7)
      have U7 : Hid (BuJ 1 w7 KB v7) := hid (by unfold BuJ; rw [if_neg (by omega)]; exact ⟨d7, o7⟩)
      have S7 : Hid (SesI 1 Aw cw w7 KS KB v7) := hid (HN.out.wrote LOS.out.2 WT.out)
      have HL7 : Hid (Below w1.heap.size w1 w7) := hid (HL5.out.trans (WT.out.below.mono (by have := LOS.out; omega)))
      clear d7 o7 wr7 W6 D6 O6 WT HN HL5 HU5
      go_wp2_with fail
      go_roundw
      case rel => exact ⟨1, v7, rfl, by omega, S7, U7, HL7⟩
      case measure => simp [intOf]
    by_cases h1 : i = 1
    case pos =>
      subst h1
      have x0 : wr.cell? ⟨bL, oL + 1, none⟩ = some (.slice L1 2 d1) := HC.out 1 _ rfl
      have LK := hid (LN.out.2.2.1.call HL.out)
      have HS' : SesN 0 [] sA0 Aw cw wr KS KB vb := HS.out
      obtain ⟨A1, c1, A2, c2, A3, c3, ds, hm, ho, hcl⟩ := HS'
      have DS := hid ds
      have HM := hid hm
      have HO := hid ho
      have HCL := hid hcl
      clear ds hm ho hcl
      clear HS
      have HU3 : Hid (BuI (.pointer (some ⟨KB, 0, none⟩)) (outI 1) wr KB vb) := hid (by have := HU.out; unfold BuJ at this; rw [if_neg (by omega)] at this; exact this)
      clear HU
      have g0 := DS.out.cell 0
      have g1 := DS.out.cell 1
      have g2 := DS.out.cell 2
      have g3 := DS.out.cell 3
      have g4 := DS.out.cell 4
      have g5 := DS.out.cell 5
      have g6 := DS.out.cell 6
      have g7 := DS.out.cell 7
      have g8 := DS.out.cell 8
      have LT : Hid (KS < wr.heap.size ∧ KB < wr.heap.size) := hid ⟨DS.out.lt, HU3.out.1.lt⟩
      go_wp2_with fail
      refine (line_v4 HM.out LK.out).mono ?_; rintro e w4 ⟨AN, cN, rfl, sm, oN, b4⟩
      clear g0 g1 g2 g3 g4 g5 g6 g7 g8 x0
      obtain ⟨w5, hw5⟩ : ∃ W, W = put9 w4 KS (.int .i64 3) (.int .i64 2) (.int .i64 1) (.slice A1 2 c1) (.slice A2 0 c2) (.slice AN 3 cN) (.slice Aw 4 cw) (.int .i64 4) (.bool true) := ⟨_, rfl⟩
      have DS4 := hid (DS.out.on b4)
      have HN : Hid (SesN 0 [] sA1 Aw cw w5 KS KB vb) := hid (by rw [hw5]; exact ses_put DS4.out sm ⟨HO.out.1, HO.out.2.1, oN KS LT.out.1⟩ ⟨HCL.out.1, HCL.out.2.1, clear_new HU3.out oN⟩)
      have HU5 := hid ((HU3.out.call b4).put LOS.out.2 (a := .int .i64 3) (b := .int .i64 2) (c := .int .i64 1) (d := .slice A1 2 c1) (e := .slice A2 0 c2) (f := .slice AN 3 cN) (g := .slice Aw 4 cw) (h := .int .i64 4) (i := .bool true))
      rw [← hw5] at HU5
      have HL5 : Hid (Below w1.heap.size w1 w5) := hid (by rw [hw5]; exact put9_bel (Bl.call HL.out b4) LOS.out.1)
      have HW5 := hid hw5
      clear hw5 b4 sm oN DS HU3 HL LK LT HM HO HCL
      have g0 := DS4.out.cell 0
      have g1 := DS4.out.cell 1
      have g2 := DS4.out.cell 2
      have g3 := DS4.out.cell 3
      have g4 := DS4.out.cell 4
      have g5 := DS4.out.cell 5
      have g6 := DS4.out.cell 6
      have g7 := DS4.out.cell 7
      have g8 := DS4.out.cell 8
      have f0 := DS4.out.frozen 0
      have f1 := DS4.out.frozen 1
      have f2 := DS4.out.frozen 2
      have f3 := DS4.out.frozen 3
      have f4 := DS4.out.frozen 4
      have f5 := DS4.out.frozen 5
      have f6 := DS4.out.frozen 6
      have f7 := DS4.out.frozen 7
      have f8 := DS4.out.frozen 8
      unfold seN
      go_wp2_with fail
      have HW6 := HW5.out
      unfold put9 at HW6
      rw [← HW6]
      clear HW6 HW5 DS4 g0 f0 g1 f1 g2 f2 g3 f3 g4 f4 g5 f5 g6 f6 g7 f7 g8 f8
      refine (wstr_used (s := ⟨#[111, 107]⟩) HU5.out.1 HU5.out.2 (by decide)).mono ?_; rintro e w6 ⟨v6, rfl, d6, o6, wr6⟩
      have D6 := hid d6
      have O6 := hid o6
      have W6 := hid wr6
      clear d6 o6 wr6
      go_wp2_with fail
      refine (wbyte_ok D6.out O6.out (by decide)).mono ?_; rintro e w7 ⟨v7, rfl, d7, o7, wr7⟩
      have WT := hid (W6.out.trans wr7)
      have U7 : Hid (BuJ 2 w7 KB v7) := hid (by unfold BuJ; rw [if_neg (by omega)]; exact ⟨d7, o7⟩)
      have S7 : Hid (SesI 2 Aw cw w7 KS KB v7) := hid (HN.out.wrote LOS.out.2 WT.out)
      have HL7 : Hid (Below w1.heap.size w1 w7) := hid (HL5.out.trans (WT.out.below.mono (by have := LOS.out; omega)))
      clear d7 o7 wr7 W6 D6 O6 WT HN HL5 HU5
      go_wp2_with fail
      go_roundw
      case rel => exact ⟨2, v7, rfl, by omega, S7, U7, HL7⟩
      case measure => simp [intOf]
    by_cases h2 : i = 2
    case pos =>
      subst h2
      have x0 : wr.cell? ⟨bL, oL + 2, none⟩ = some (.slice L2 2 d2) := HC.out 2 _ rfl
      have LK := hid (LN.out.2.2.2.1.call HL.out)
      have HS' : SesN 0 [] sA1 Aw cw wr KS KB vb := HS.out
      obtain ⟨A1, c1, A2, c2, A3, c3, ds, hm, ho, hcl⟩ := HS'
      have DS := hid ds
      have HM := hid hm
      have HO := hid ho
      have HCL := hid hcl
      clear ds hm ho hcl
      clear HS
      have HU3 : Hid (BuI (.pointer (some ⟨KB, 0, none⟩)) (outI 2) wr KB vb) := hid (by have := HU.out; unfold BuJ at this; rw [if_neg (by omega)] at this; exact this)
      clear HU
      have g0 := DS.out.cell 0
      have g1 := DS.out.cell 1
      have g2 := DS.out.cell 2
      have g3 := DS.out.cell 3
      have g4 := DS.out.cell 4
      have g5 := DS.out.cell 5
      have g6 := DS.out.cell 6
      have g7 := DS.out.cell 7
      have g8 := DS.out.cell 8
      have LT : Hid (KS < wr.heap.size ∧ KB < wr.heap.size) := hid ⟨DS.out.lt, HU3.out.1.lt⟩
      go_wp2_with fail
      refine (line_v6 HM.out LK.out).mono ?_; rintro e w4 ⟨AN, cN, rfl, sm, oN, b4⟩
      clear g0 g1 g2 g3 g4 g5 g6 g7 g8 x0
      obtain ⟨w5, hw5⟩ : ∃ W, W = put9 w4 KS (.int .i64 3) (.int .i64 2) (.int .i64 1) (.slice A1 2 c1) (.slice A2 0 c2) (.slice AN 3 cN) (.slice Aw 4 cw) (.int .i64 4) (.bool true) := ⟨_, rfl⟩
      have DS4 := hid (DS.out.on b4)
      have HN : Hid (SesN 0 [] sA2 Aw cw w5 KS KB vb) := hid (by rw [hw5]; exact ses_put DS4.out sm ⟨HO.out.1, HO.out.2.1, oN KS LT.out.1⟩ ⟨HCL.out.1, HCL.out.2.1, clear_new HU3.out oN⟩)
      have HU5 := hid ((HU3.out.call b4).put LOS.out.2 (a := .int .i64 3) (b := .int .i64 2) (c := .int .i64 1) (d := .slice A1 2 c1) (e := .slice A2 0 c2) (f := .slice AN 3 cN) (g := .slice Aw 4 cw) (h := .int .i64 4) (i := .bool true))
      rw [← hw5] at HU5
      have HL5 : Hid (Below w1.heap.size w1 w5) := hid (by rw [hw5]; exact put9_bel (Bl.call HL.out b4) LOS.out.1)
      have HW5 := hid hw5
      clear hw5 b4 sm oN DS HU3 HL LK LT HM HO HCL
      have g0 := DS4.out.cell 0
      have g1 := DS4.out.cell 1
      have g2 := DS4.out.cell 2
      have g3 := DS4.out.cell 3
      have g4 := DS4.out.cell 4
      have g5 := DS4.out.cell 5
      have g6 := DS4.out.cell 6
      have g7 := DS4.out.cell 7
      have g8 := DS4.out.cell 8
      have f0 := DS4.out.frozen 0
      have f1 := DS4.out.frozen 1
      have f2 := DS4.out.frozen 2
      have f3 := DS4.out.frozen 3
      have f4 := DS4.out.frozen 4
      have f5 := DS4.out.frozen 5
      have f6 := DS4.out.frozen 6
      have f7 := DS4.out.frozen 7
      have f8 := DS4.out.frozen 8
      unfold seN
      go_wp2_with fail
      have HW6 := HW5.out
      unfold put9 at HW6
      rw [← HW6]
      clear HW6 HW5 DS4 g0 f0 g1 f1 g2 f2 g3 f3 g4 f4 g5 f5 g6 f6 g7 f7 g8 f8
      refine (wstr_used (s := ⟨#[111, 107]⟩) HU5.out.1 HU5.out.2 (by decide)).mono ?_; rintro e w6 ⟨v6, rfl, d6, o6, wr6⟩
      have D6 := hid d6
      have O6 := hid o6
      have W6 := hid wr6
      clear d6 o6 wr6
      go_wp2_with fail
      refine (wbyte_ok D6.out O6.out (by decide)).mono ?_; rintro e w7 ⟨v7, rfl, d7, o7, wr7⟩
      have WT := hid (W6.out.trans wr7)
      have U7 : Hid (BuJ 3 w7 KB v7) := hid (by unfold BuJ; rw [if_neg (by omega)]; exact ⟨d7, o7⟩)
      have S7 : Hid (SesI 3 Aw cw w7 KS KB v7) := hid (HN.out.wrote LOS.out.2 WT.out)
      have HL7 : Hid (Below w1.heap.size w1 w7) := hid (HL5.out.trans (WT.out.below.mono (by have := LOS.out; omega)))
      clear d7 o7 wr7 W6 D6 O6 WT HN HL5 HU5
      go_wp2_with fail
      go_roundw
      case rel => exact ⟨3, v7, rfl, by omega, S7, U7, HL7⟩
      case measure => simp [intOf]
    by_cases h3 : i = 3
    case pos =>
      subst h3
      have x0 : wr.cell? ⟨bL, oL + 3, none⟩ = some (.slice L3 2 d3) := HC.out 3 _ rfl
      have LK := hid (LN.out.2.2.2.2.1.call HL.out)
      have HS' : SesN 0 [] sA2 Aw cw wr KS KB vb := HS.out
      obtain ⟨A1, c1, A2, c2, A3, c3, ds, hm, ho, hcl⟩ := HS'
      have DS := hid ds
      have HM := hid hm
      have HO := hid ho
      have HCL := hid hcl
      clear ds hm ho hcl
      clear HS
      have HU3 : Hid (BuI (.pointer (some ⟨KB, 0, none⟩)) (outI 3) wr KB vb) := hid (by have := HU.out; unfold BuJ at this; rw [if_neg (by omega)] at this; exact this)
      clear HU
      have g0 := DS.out.cell 0
      have g1 := DS.out.cell 1
      have g2 := DS.out.cell 2
      have g3 := DS.out.cell 3
      have g4 := DS.out.cell 4
      have g5 := DS.out.cell 5
      have g6 := DS.out.cell 6
      have g7 := DS.out.cell 7
      have g8 := DS.out.cell 8
      have LT : Hid (KS < wr.heap.size ∧ KB < wr.heap.size) := hid ⟨DS.out.lt, HU3.out.1.lt⟩
      go_wp2_with fail
      refine (line_v8 HM.out LK.out).mono ?_; rintro e w4 ⟨AN, cN, rfl, sm, oN, b4⟩
      clear g0 g1 g2 g3 g4 g5 g6 g7 g8 x0
      obtain ⟨w5, hw5⟩ : ∃ W, W = put9 w4 KS (.int .i64 3) (.int .i64 2) (.int .i64 1) (.slice A1 2 c1) (.slice A2 0 c2) (.slice AN 3 cN) (.slice Aw 4 cw) (.int .i64 4) (.bool true) := ⟨_, rfl⟩
      have DS4 := hid (DS.out.on b4)
      have HN : Hid (SesN 0 [] sA3 Aw cw w5 KS KB vb) := hid (by rw [hw5]; exact ses_put DS4.out sm ⟨HO.out.1, HO.out.2.1, oN KS LT.out.1⟩ ⟨HCL.out.1, HCL.out.2.1, clear_new HU3.out oN⟩)
      have HU5 := hid ((HU3.out.call b4).put LOS.out.2 (a := .int .i64 3) (b := .int .i64 2) (c := .int .i64 1) (d := .slice A1 2 c1) (e := .slice A2 0 c2) (f := .slice AN 3 cN) (g := .slice Aw 4 cw) (h := .int .i64 4) (i := .bool true))
      rw [← hw5] at HU5
      have HL5 : Hid (Below w1.heap.size w1 w5) := hid (by rw [hw5]; exact put9_bel (Bl.call HL.out b4) LOS.out.1)
      have HW5 := hid hw5
      clear hw5 b4 sm oN DS HU3 HL LK LT HM HO HCL
      have g0 := DS4.out.cell 0
      have g1 := DS4.out.cell 1
      have g2 := DS4.out.cell 2
      have g3 := DS4.out.cell 3
      have g4 := DS4.out.cell 4
      have g5 := DS4.out.cell 5
      have g6 := DS4.out.cell 6
      have g7 := DS4.out.cell 7
      have g8 := DS4.out.cell 8
      have f0 := DS4.out.frozen 0
      have f1 := DS4.out.frozen 1
      have f2 := DS4.out.frozen 2
      have f3 := DS4.out.frozen 3
      have f4 := DS4.out.frozen 4
      have f5 := DS4.out.frozen 5
      have f6 := DS4.out.frozen 6
      have f7 := DS4.out.frozen 7
      have f8 := DS4.out.frozen 8
      unfold seN
      go_wp2_with fail
      have HW6 := HW5.out
      unfold put9 at HW6
      rw [← HW6]
      clear HW6 HW5 DS4 g0 f0 g1 f1 g2 f2 g3 f3 g4 f4 g5 f5 g6 f6 g7 f7 g8 f8
      refine (wstr_used (s := ⟨#[111, 107]⟩) HU5.out.1 HU5.out.2 (by decide)).mono ?_; rintro e w6 ⟨v6, rfl, d6, o6, wr6⟩
      have D6 := hid d6
      have O6 := hid o6
      have W6 := hid wr6
      clear d6 o6 wr6
      go_wp2_with fail
      refine (wbyte_ok D6.out O6.out (by decide)).mono ?_; rintro e w7 ⟨v7, rfl, d7, o7, wr7⟩
      have WT := hid (W6.out.trans wr7)
      have U7 : Hid (BuJ 4 w7 KB v7) := hid (by unfold BuJ; rw [if_neg (by omega)]; exact ⟨d7, o7⟩)
      have S7 : Hid (SesI 4 Aw cw w7 KS KB v7) := hid (HN.out.wrote LOS.out.2 WT.out)
      have HL7 : Hid (Below w1.heap.size w1 w7) := hid (HL5.out.trans (WT.out.below.mono (by have := LOS.out; omega)))
      clear d7 o7 wr7 W6 D6 O6 WT HN HL5 HU5
      go_wp2_with fail
      go_roundw
      case rel => exact ⟨4, v7, rfl, by omega, S7, U7, HL7⟩
      case measure => simp [intOf]
    by_cases h4 : i = 4
    case pos =>
      subst h4
      have x0 : wr.cell? ⟨bL, oL + 4, none⟩ = some (.slice L4 3 d4) := HC.out 4 _ rfl
      have LK := hid (LN.out.2.2.2.2.2.1.call HL.out)
      have HS' : SesN 0 [] sA3 Aw cw wr KS KB vb := HS.out
      obtain ⟨A1, c1, A2, c2, A3, c3, ds, hm, ho, hcl⟩ := HS'
      have DS := hid ds
      have HM := hid hm
      have HO := hid ho
      have HCL := hid hcl
      clear ds hm ho hcl
      clear HS
      have HU3 : Hid (BuI (.pointer (some ⟨KB, 0, none⟩)) (outI 4) wr KB vb) := hid (by have := HU.out; unfold BuJ at this; rw [if_neg (by omega)] at this; exact this)
      clear HU
      have g0 := DS.out.cell 0
      have g1 := DS.out.cell 1
      have g2 := DS.out.cell 2
      have g3 := DS.out.cell 3
      have g4 := DS.out.cell 4
      have g5 := DS.out.cell 5
      have g6 := DS.out.cell 6
      have g7 := DS.out.cell 7
      have g8 := DS.out.cell 8
      have LT : Hid (KS < wr.heap.size ∧ KB < wr.heap.size) := hid ⟨DS.out.lt, HU3.out.1.lt⟩
      go_wp2_with fail
      refine (line_edge HM.out LK.out).mono ?_; rintro e w4 ⟨AN, cN, rfl, sm, oN, b4⟩
      clear g0 g1 g2 g3 g4 g5 g6 g7 g8 x0
      obtain ⟨w5, hw5⟩ : ∃ W, W = put9 w4 KS (.int .i64 3) (.int .i64 2) (.int .i64 1) (.slice A1 2 c1) (.slice AN 1 cN) (.slice A3 3 c3) (.slice Aw 4 cw) (.int .i64 4) (.bool true) := ⟨_, rfl⟩
      have DS4 := hid (DS.out.on b4)
      have HN : Hid (SesN 1 eA sA3 Aw cw w5 KS KB vb) := hid (by rw [hw5]; exact ses_put DS4.out sm ⟨HO.out.1, oN KS LT.out.1, HO.out.2.2⟩ ⟨HCL.out.1, clear_new HU3.out oN, HCL.out.2.2⟩)
      have HU5 := hid ((HU3.out.call b4).put LOS.out.2 (a := .int .i64 3) (b := .int .i64 2) (c := .int .i64 1) (d := .slice A1 2 c1) (e := .slice AN 1 cN) (f := .slice A3 3 c3) (g := .slice Aw 4 cw) (h := .int .i64 4) (i := .bool true))
      rw [← hw5] at HU5
      have HL5 : Hid (Below w1.heap.size w1 w5) := hid (by rw [hw5]; exact put9_bel (Bl.call HL.out b4) LOS.out.1)
      have HW5 := hid hw5
      clear hw5 b4 sm oN DS HU3 HL LK LT HM HO HCL
      have g0 := DS4.out.cell 0
      have g1 := DS4.out.cell 1
      have g2 := DS4.out.cell 2
      have g3 := DS4.out.cell 3
      have g4 := DS4.out.cell 4
      have g5 := DS4.out.cell 5
      have g6 := DS4.out.cell 6
      have g7 := DS4.out.cell 7
      have g8 := DS4.out.cell 8
      have f0 := DS4.out.frozen 0
      have f1 := DS4.out.frozen 1
      have f2 := DS4.out.frozen 2
      have f3 := DS4.out.frozen 3
      have f4 := DS4.out.frozen 4
      have f5 := DS4.out.frozen 5
      have f6 := DS4.out.frozen 6
      have f7 := DS4.out.frozen 7
      have f8 := DS4.out.frozen 8
      unfold seN
      go_wp2_with fail
      have HW6 := HW5.out
      unfold put9 at HW6
      rw [← HW6]
      clear HW6 HW5 DS4 g0 f0 g1 f1 g2 f2 g3 f3 g4 f4 g5 f5 g6 f6 g7 f7 g8 f8
      refine (wstr_used (s := ⟨#[111, 107]⟩) HU5.out.1 HU5.out.2 (by decide)).mono ?_; rintro e w6 ⟨v6, rfl, d6, o6, wr6⟩
      have D6 := hid d6
      have O6 := hid o6
      have W6 := hid wr6
      clear d6 o6 wr6
      go_wp2_with fail
      refine (wbyte_ok D6.out O6.out (by decide)).mono ?_; rintro e w7 ⟨v7, rfl, d7, o7, wr7⟩
      have WT := hid (W6.out.trans wr7)
      have U7 : Hid (BuJ 5 w7 KB v7) := hid (by unfold BuJ; rw [if_neg (by omega)]; exact ⟨d7, o7⟩)
      have S7 : Hid (SesI 5 Aw cw w7 KS KB v7) := hid (HN.out.wrote LOS.out.2 WT.out)
      have HL7 : Hid (Below w1.heap.size w1 w7) := hid (HL5.out.trans (WT.out.below.mono (by have := LOS.out; omega)))
      clear d7 o7 wr7 W6 D6 O6 WT HN HL5 HU5
      go_wp2_with fail
      go_roundw
      case rel => exact ⟨5, v7, rfl, by omega, S7, U7, HL7⟩
      case measure => simp [intOf]
    by_cases h5 : i = 5
    case pos =>
      subst h5
      have x0 : wr.cell? ⟨bL, oL + 5, none⟩ = some (.slice L5 3 d5) := HC.out 5 _ rfl
      have LK := hid (LN.out.2.2.2.2.2.2.1.call HL.out)
      have HS' : SesN 1 eA sA3 Aw cw wr KS KB vb := HS.out
      obtain ⟨A1, c1, A2, c2, A3, c3, ds, hm, ho, hcl⟩ := HS'
      have DS := hid ds
      have HM := hid hm
      have HO := hid ho
      have HCL := hid hcl
      clear ds hm ho hcl
      clear HS
      have HU3 : Hid (BuI (.pointer (some ⟨KB, 0, none⟩)) (outI 5) wr KB vb) := hid (by have := HU.out; unfold BuJ at this; rw [if_neg (by omega)] at this; exact this)
      clear HU
      have g0 := DS.out.cell 0
      have g1 := DS.out.cell 1
      have g2 := DS.out.cell 2
      have g3 := DS.out.cell 3
      have g4 := DS.out.cell 4
      have g5 := DS.out.cell 5
      have g6 := DS.out.cell 6
      have g7 := DS.out.cell 7
      have g8 := DS.out.cell 8
      have LT : Hid (KS < wr.heap.size ∧ KB < wr.heap.size) := hid ⟨DS.out.lt, HU3.out.1.lt⟩
      go_wp2_with fail
      refine (line_conn1 HM.out LK.out).mono ?_; rintro e w4 ⟨rfl, b4⟩
      clear g0 g1 g2 g3 g4 g5 g6 g7 g8 x0
      obtain ⟨w5, hw5⟩ : ∃ W, W = put9 w4 KS (.int .i64 3) (.int .i64 2) (.int .i64 1) (.slice A1 2 c1) (.slice A2 1 c2) (.slice A3 3 c3) (.slice Aw 4 cw) (.int .i64 4) (.bool true) := ⟨_, rfl⟩
      have DS4 := hid (DS.out.on b4)
      have HN : Hid (SesN 1 eA sA3 Aw cw w5 KS KB vb) := hid (by rw [hw5]; exact ses_put DS4.out (HM.out.call b4) HO.out HCL.out)
      have HU5 := hid ((HU3.out.call b4).put LOS.out.2 (a := .int .i64 3) (b := .int .i64 2) (c := .int .i64 1) (d := .slice A1 2 c1) (e := .slice A2 1 c2) (f := .slice A3 3 c3) (g := .slice Aw 4 cw) (h := .int .i64 4) (i := .bool true))
      rw [← hw5] at HU5
      have HL5 : Hid (Below w1.heap.size w1 w5) := hid (by rw [hw5]; exact put9_bel (Bl.call HL.out b4) LOS.out.1)
      have HW5 := hid hw5
      clear hw5 b4 DS HU3 HL LK LT HM HO HCL
      have g0 := DS4.out.cell 0
      have g1 := DS4.out.cell 1
      have g2 := DS4.out.cell 2
      have g3 := DS4.out.cell 3
      have g4 := DS4.out.cell 4
      have g5 := DS4.out.cell 5
      have g6 := DS4.out.cell 6
      have g7 := DS4.out.cell 7
      have g8 := DS4.out.cell 8
      have f0 := DS4.out.frozen 0
      have f1 := DS4.out.frozen 1
      have f2 := DS4.out.frozen 2
      have f3 := DS4.out.frozen 3
      have f4 := DS4.out.frozen 4
      have f5 := DS4.out.frozen 5
      have f6 := DS4.out.frozen 6
      have f7 := DS4.out.frozen 7
      have f8 := DS4.out.frozen 8
      unfold seN
      go_wp2_with fail
      have HW6 := HW5.out
      unfold put9 at HW6
      rw [← HW6]
      clear HW6 HW5 DS4 g0 f0 g1 f1 g2 f2 g3 f3 g4 f4 g5 f5 g6 f6 g7 f7 g8 f8
      refine (wstr_used (s := ⟨#[121, 101, 115]⟩) HU5.out.1 HU5.out.2 (by decide)).mono ?_; rintro e w6 ⟨v6, rfl, d6, o6, wr6⟩
      have D6 := hid d6
      have O6 := hid o6
      have W6 := hid wr6
      clear d6 o6 wr6
      go_wp2_with fail
      refine (wbyte_ok D6.out O6.out (by decide)).mono ?_; rintro e w7 ⟨v7, rfl, d7, o7, wr7⟩
      have WT := hid (W6.out.trans wr7)
      have U7 : Hid (BuJ 6 w7 KB v7) := hid (by unfold BuJ; rw [if_neg (by omega)]; exact ⟨d7, o7⟩)
      have S7 : Hid (SesI 6 Aw cw w7 KS KB v7) := hid (HN.out.wrote LOS.out.2 WT.out)
      have HL7 : Hid (Below w1.heap.size w1 w7) := hid (HL5.out.trans (WT.out.below.mono (by have := LOS.out; omega)))
      clear d7 o7 wr7 W6 D6 O6 WT HN HL5 HU5
      go_wp2_with fail
      go_roundw
      case rel => exact ⟨6, v7, rfl, by omega, S7, U7, HL7⟩
      case measure => simp [intOf]
    by_cases h6 : i = 6
    case pos =>
      subst h6
      have x0 : wr.cell? ⟨bL, oL + 6, none⟩ = some (.slice L6 3 d6) := HC.out 6 _ rfl
      have LK := hid (LN.out.2.2.2.2.2.2.2.1.call HL.out)
      have HS' : SesN 1 eA sA3 Aw cw wr KS KB vb := HS.out
      obtain ⟨A1, c1, A2, c2, A3, c3, ds, hm, ho, hcl⟩ := HS'
      have DS := hid ds
      have HM := hid hm
      have HO := hid ho
      have HCL := hid hcl
      clear ds hm ho hcl
      clear HS
      have HU3 : Hid (BuI (.pointer (some ⟨KB, 0, none⟩)) (outI 6) wr KB vb) := hid (by have := HU.out; unfold BuJ at this; rw [if_neg (by omega)] at this; exact this)
      clear HU
      have g0 := DS.out.cell 0
      have g1 := DS.out.cell 1
      have g2 := DS.out.cell 2
      have g3 := DS.out.cell 3
      have g4 := DS.out.cell 4
      have g5 := DS.out.cell 5
      have g6 := DS.out.cell 6
      have g7 := DS.out.cell 7
      have g8 := DS.out.cell 8
      have LT : Hid (KS < wr.heap.size ∧ KB < wr.heap.size) := hid ⟨DS.out.lt, HU3.out.1.lt⟩
      go_wp2_with fail
      refine (line_conn2 HM.out LK.out).mono ?_; rintro e w4 ⟨rfl, b4⟩
      clear g0 g1 g2 g3 g4 g5 g6 g7 g8 x0
      obtain ⟨w5, hw5⟩ : ∃ W, W = put9 w4 KS (.int .i64 3) (.int .i64 2) (.int .i64 1) (.slice A1 2 c1) (.slice A2 1 c2) (.slice A3 3 c3) (.slice Aw 4 cw) (.int .i64 4) (.bool true) := ⟨_, rfl⟩
      have DS4 := hid (DS.out.on b4)
      have HN : Hid (SesN 1 eA sA3 Aw cw w5 KS KB vb) := hid (by rw [hw5]; exact ses_put DS4.out (HM.out.call b4) HO.out HCL.out)
      have HU5 := hid ((HU3.out.call b4).put LOS.out.2 (a := .int .i64 3) (b := .int .i64 2) (c := .int .i64 1) (d := .slice A1 2 c1) (e := .slice A2 1 c2) (f := .slice A3 3 c3) (g := .slice Aw 4 cw) (h := .int .i64 4) (i := .bool true))
      rw [← hw5] at HU5
      have HL5 : Hid (Below w1.heap.size w1 w5) := hid (by rw [hw5]; exact put9_bel (Bl.call HL.out b4) LOS.out.1)
      have HW5 := hid hw5
      clear hw5 b4 DS HU3 HL LK LT HM HO HCL
      have g0 := DS4.out.cell 0
      have g1 := DS4.out.cell 1
      have g2 := DS4.out.cell 2
      have g3 := DS4.out.cell 3
      have g4 := DS4.out.cell 4
      have g5 := DS4.out.cell 5
      have g6 := DS4.out.cell 6
      have g7 := DS4.out.cell 7
      have g8 := DS4.out.cell 8
      have f0 := DS4.out.frozen 0
      have f1 := DS4.out.frozen 1
      have f2 := DS4.out.frozen 2
      have f3 := DS4.out.frozen 3
      have f4 := DS4.out.frozen 4
      have f5 := DS4.out.frozen 5
      have f6 := DS4.out.frozen 6
      have f7 := DS4.out.frozen 7
      have f8 := DS4.out.frozen 8
      unfold seN
      go_wp2_with fail
      have HW6 := HW5.out
      unfold put9 at HW6
      rw [← HW6]
      clear HW6 HW5 DS4 g0 f0 g1 f1 g2 f2 g3 f3 g4 f4 g5 f5 g6 f6 g7 f7 g8 f8
      refine (wstr_used (s := ⟨#[110, 111]⟩) HU5.out.1 HU5.out.2 (by decide)).mono ?_; rintro e w6 ⟨v6, rfl, d6, o6, wr6⟩
      have D6 := hid d6
      have O6 := hid o6
      have W6 := hid wr6
      clear d6 o6 wr6
      go_wp2_with fail
      refine (wbyte_ok D6.out O6.out (by decide)).mono ?_; rintro e w7 ⟨v7, rfl, d7, o7, wr7⟩
      have WT := hid (W6.out.trans wr7)
      have U7 : Hid (BuJ 7 w7 KB v7) := hid (by unfold BuJ; rw [if_neg (by omega)]; exact ⟨d7, o7⟩)
      have S7 : Hid (SesI 7 Aw cw w7 KS KB v7) := hid (HN.out.wrote LOS.out.2 WT.out)
      have HL7 : Hid (Below w1.heap.size w1 w7) := hid (HL5.out.trans (WT.out.below.mono (by have := LOS.out; omega)))
      clear d7 o7 wr7 W6 D6 O6 WT HN HL5 HU5
      go_wp2_with fail
      go_roundw
      case rel => exact ⟨7, v7, rfl, by omega, S7, U7, HL7⟩
      case measure => simp [intOf]
    by_cases h7 : i = 7
    case pos =>
      subst h7
      have x0 : wr.cell? ⟨bL, oL + 7, none⟩ = some (.slice L7 1 d7) := HC.out 7 _ rfl
      have LK := hid (LN.out.2.2.2.2.2.2.2.2.1.call HL.out)
      have HS' : SesN 1 eA sA3 Aw cw wr KS KB vb := HS.out
      obtain ⟨A1, c1, A2, c2, A3, c3, ds, hm, ho, hcl⟩ := HS'
      have DS := hid ds
      have HM := hid hm
      have HO := hid ho
      have HCL := hid hcl
      clear ds hm ho hcl
      clear HS
      have HU3 : Hid (BuI (.pointer (some ⟨KB, 0, none⟩)) (outI 7) wr KB vb) := hid (by have := HU.out; unfold BuJ at this; rw [if_neg (by omega)] at this; exact this)
      clear HU
      have g0 := DS.out.cell 0
      have g1 := DS.out.cell 1
      have g2 := DS.out.cell 2
      have g3 := DS.out.cell 3
      have g4 := DS.out.cell 4
      have g5 := DS.out.cell 5
      have g6 := DS.out.cell 6
      have g7 := DS.out.cell 7
      have g8 := DS.out.cell 8
      have LT : Hid (KS < wr.heap.size ∧ KB < wr.heap.size) := hid ⟨DS.out.lt, HU3.out.1.lt⟩
      go_wp2_with fail
      refine (line_audit HM.out LK.out).mono ?_; rintro e w4 ⟨rfl, b4⟩
      clear g0 g1 g2 g3 g4 g5 g6 g7 g8 x0
      obtain ⟨w5, hw5⟩ : ∃ W, W = put9 w4 KS (.int .i64 3) (.int .i64 2) (.int .i64 1) (.slice A1 2 c1) (.slice A2 1 c2) (.slice A3 3 c3) (.slice Aw 4 cw) (.int .i64 4) (.bool true) := ⟨_, rfl⟩
      have DS4 := hid (DS.out.on b4)
      have HN : Hid (SesN 1 eA sA3 Aw cw w5 KS KB vb) := hid (by rw [hw5]; exact ses_put DS4.out (HM.out.call b4) HO.out HCL.out)
      have HU5 := hid ((HU3.out.call b4).put LOS.out.2 (a := .int .i64 3) (b := .int .i64 2) (c := .int .i64 1) (d := .slice A1 2 c1) (e := .slice A2 1 c2) (f := .slice A3 3 c3) (g := .slice Aw 4 cw) (h := .int .i64 4) (i := .bool true))
      rw [← hw5] at HU5
      have HL5 : Hid (Below w1.heap.size w1 w5) := hid (by rw [hw5]; exact put9_bel (Bl.call HL.out b4) LOS.out.1)
      have HW5 := hid hw5
      clear hw5 b4 DS HU3 HL LK LT HM HO HCL
      have g0 := DS4.out.cell 0
      have g1 := DS4.out.cell 1
      have g2 := DS4.out.cell 2
      have g3 := DS4.out.cell 3
      have g4 := DS4.out.cell 4
      have g5 := DS4.out.cell 5
      have g6 := DS4.out.cell 6
      have g7 := DS4.out.cell 7
      have g8 := DS4.out.cell 8
      have f0 := DS4.out.frozen 0
      have f1 := DS4.out.frozen 1
      have f2 := DS4.out.frozen 2
      have f3 := DS4.out.frozen 3
      have f4 := DS4.out.frozen 4
      have f5 := DS4.out.frozen 5
      have f6 := DS4.out.frozen 6
      have f7 := DS4.out.frozen 7
      have f8 := DS4.out.frozen 8
      unfold seN
      go_wp2_with fail
      have HW6 := HW5.out
      unfold put9 at HW6
      rw [← HW6]
      clear HW6 HW5 DS4 g0 f0 g1 f1 g2 f2 g3 f3 g4 f4 g5 f5 g6 f6 g7 f7 g8 f8
      refine (wstr_used (s := ⟨#[121, 101, 115]⟩) HU5.out.1 HU5.out.2 (by decide)).mono ?_; rintro e w6 ⟨v6, rfl, d6, o6, wr6⟩
      have D6 := hid d6
      have O6 := hid o6
      have W6 := hid wr6
      clear d6 o6 wr6
      go_wp2_with fail
      refine (wbyte_ok D6.out O6.out (by decide)).mono ?_; rintro e w7 ⟨v7, rfl, d7, o7, wr7⟩
      have WT := hid (W6.out.trans wr7)
      have U7 : Hid (BuJ 8 w7 KB v7) := hid (by unfold BuJ; rw [if_neg (by omega)]; exact ⟨d7, o7⟩)
      have S7 : Hid (SesI 8 Aw cw w7 KS KB v7) := hid (HN.out.wrote LOS.out.2 WT.out)
      have HL7 : Hid (Below w1.heap.size w1 w7) := hid (HL5.out.trans (WT.out.below.mono (by have := LOS.out; omega)))
      clear d7 o7 wr7 W6 D6 O6 WT HN HL5 HU5
      go_wp2_with fail
      go_roundw
      case rel => exact ⟨8, v7, rfl, by omega, S7, U7, HL7⟩
      case measure => simp [intOf]
    by_cases h8 : i = 8
    case pos =>
      subst h8
      have x0 : wr.cell? ⟨bL, oL + 8, none⟩ = some (.slice L8 2 d8) := HC.out 8 _ rfl
      have LK := hid (LN.out.2.2.2.2.2.2.2.2.2.call HL.out)
      have HS' : SesN 1 eA sA3 Aw cw wr KS KB vb := HS.out
      obtain ⟨A1, c1, A2, c2, A3, c3, ds, hm, ho, hcl⟩ := HS'
      have DS := hid ds
      have HM := hid hm
      have HO := hid ho
      have HCL := hid hcl
      clear ds hm ho hcl
      clear HS
      have HU3 : Hid (BuI (.pointer (some ⟨KB, 0, none⟩)) (outI 8) wr KB vb) := hid (by have := HU.out; unfold BuJ at this; rw [if_neg (by omega)] at this; exact this)
      clear HU
      have g0 := DS.out.cell 0
      have g1 := DS.out.cell 1
      have g2 := DS.out.cell 2
      have g3 := DS.out.cell 3
      have g4 := DS.out.cell 4
      have g5 := DS.out.cell 5
      have g6 := DS.out.cell 6
      have g7 := DS.out.cell 7
      have g8 := DS.out.cell 8
      have LT : Hid (KS < wr.heap.size ∧ KB < wr.heap.size) := hid ⟨DS.out.lt, HU3.out.1.lt⟩
      go_wp2_with fail
      refine (line_size HM.out LK.out).mono ?_; rintro e w4 ⟨rfl, b4⟩
      clear g0 g1 g2 g3 g4 g5 g6 g7 g8 x0
      obtain ⟨w5, hw5⟩ : ∃ W, W = put9 w4 KS (.int .i64 3) (.int .i64 2) (.int .i64 1) (.slice A1 2 c1) (.slice A2 1 c2) (.slice A3 3 c3) (.slice Aw 4 cw) (.int .i64 4) (.bool true) := ⟨_, rfl⟩
      have DS4 := hid (DS.out.on b4)
      have HN : Hid (SesN 1 eA sA3 Aw cw w5 KS KB vb) := hid (by rw [hw5]; exact ses_put DS4.out (HM.out.call b4) HO.out HCL.out)
      have HU5 := hid ((HU3.out.call b4).put LOS.out.2 (a := .int .i64 3) (b := .int .i64 2) (c := .int .i64 1) (d := .slice A1 2 c1) (e := .slice A2 1 c2) (f := .slice A3 3 c3) (g := .slice Aw 4 cw) (h := .int .i64 4) (i := .bool true))
      rw [← hw5] at HU5
      have HL5 : Hid (Below w1.heap.size w1 w5) := hid (by rw [hw5]; exact put9_bel (Bl.call HL.out b4) LOS.out.1)
      have HW5 := hid hw5
      clear hw5 b4 DS HU3 HL LK LT HM HO HCL
      have g0 := DS4.out.cell 0
      have g1 := DS4.out.cell 1
      have g2 := DS4.out.cell 2
      have g3 := DS4.out.cell 3
      have g4 := DS4.out.cell 4
      have g5 := DS4.out.cell 5
      have g6 := DS4.out.cell 6
      have g7 := DS4.out.cell 7
      have g8 := DS4.out.cell 8
      have f0 := DS4.out.frozen 0
      have f1 := DS4.out.frozen 1
      have f2 := DS4.out.frozen 2
      have f3 := DS4.out.frozen 3
      have f4 := DS4.out.frozen 4
      have f5 := DS4.out.frozen 5
      have f6 := DS4.out.frozen 6
      have f7 := DS4.out.frozen 7
      have f8 := DS4.out.frozen 8
      unfold seN
      go_wp2_with fail
      have HW6 := HW5.out
      unfold put9 at HW6
      rw [← HW6]
      clear HW6 HW5 DS4 g0 f0 g1 f1 g2 f2 g3 f3 g4 f4 g5 f5 g6 f6 g7 f7 g8 f8
      refine (wstr_used (s := ⟨#[50]⟩) HU5.out.1 HU5.out.2 (by decide)).mono ?_; rintro e w6 ⟨v6, rfl, d6, o6, wr6⟩
      have D6 := hid d6
      have O6 := hid o6
      have W6 := hid wr6
      clear d6 o6 wr6
      go_wp2_with fail
      refine (wbyte_ok D6.out O6.out (by decide)).mono ?_; rintro e w7 ⟨v7, rfl, d7, o7, wr7⟩
      have WT := hid (W6.out.trans wr7)
      have U7 : Hid (BuJ 9 w7 KB v7) := hid (by unfold BuJ; rw [if_neg (by omega)]; exact ⟨d7, o7⟩)
      have S7 : Hid (SesI 9 Aw cw w7 KS KB v7) := hid (HN.out.wrote LOS.out.2 WT.out)
      have HL7 : Hid (Below w1.heap.size w1 w7) := hid (HL5.out.trans (WT.out.below.mono (by have := LOS.out; omega)))
      clear d7 o7 wr7 W6 D6 O6 WT HN HL5 HU5
      go_wp2_with fail
      go_roundw
      case rel => exact ⟨9, v7, rfl, by omega, S7, U7, HL7⟩
      case measure => simp [intOf]
    obtain rfl : i = 9 := by omega
    have HU3 : Hid (BuI (.pointer (some ⟨KB, 0, none⟩)) (outI 9) wr KB vb) := hid (by have := HU.out; unfold BuJ at this; rw [if_neg (by omega)] at this; exact this)
    clear HU HS
    go_wp2_with fail
    refine (bstring_ok (by decide) (by decide) HU3.out.1 HU3.out.2).mono ?_; rintro e w4 ⟨rfl, b4⟩
    have HB4 := hid (Bl.call HB1.out (HL.out.trans (b4.mono (by have := LOS.out; omega))))
    clear b4
    go_wp2
    go_ret
    exact ⟨rfl, HB4.out⟩
set_option maxHeartbeats 4000000 in
set_option maxRecDepth 100000 in
theorem awake_ok (w : World) : Calls Tryz.prog 6 #[] w (IsTrue w) := by
  obtain ⟨w1, hw1⟩ : ∃ W, W = w.alloc (.cells #[.int .u64 7, .int .u64 1, .int .u64 9, .int .u64 2] 40) := ⟨_, rfl⟩
  have HS : Hid (Sl w1 w1.heap.size 1 (.slice (some ⟨w.heap.size, 0, none⟩) 4 4) 4 (us [7, 1, 9, 2])) := hid (by rw [hw1]; exact (Blk.new w 40 (us [7, 1, 9, 2])).sl (by simp) (Nat.le_refl _) (by unfold maxLen; omega) rfl)
  have HB : Hid (Below w.heap.size w w1) := hid (by rw [hw1]; exact bel_new _ _)
  have HW := hid hw1
  clear hw1
  go_enter Tryz.func6, Tryz.ntmps6
  go_wp2_with fail
  rw [← HW.out]
  refine (run_A HS.out).mono ?_; rintro e w2 ⟨rfl, b2⟩
  have HB2 := hid (Bl.call HB.out b2)
  clear b2
  go_wp2
  go_ret
  exact ⟨rfl, HB2.out⟩
end Go.Proofs.YtahodfikhocobaaGreatDoor
namespace Go.Proofs.YtahodfikhocobaaGreatDoor
open Go.ChangeShapes Go.WideShapes Go.ChangeAt Go.RowKit Go.Deep
set_option linter.unusedVariables false
set_option maxRecDepth 100000
section
variable {H : Type} {enc : TypeId × Value → H} {w : World} {spare : Nat → Bool} {held : Bool}
theorem tfields2 {t : TypeId} {n : Nat} {cs : List Value} {y : DataW H × List MemPlace} {f0 f1 : Field} (hs : Tryz.prog.underlying t = some (.struct #[f0, f1])) (hC : Tryz.prog.cellsOf t = 2)
    (o : f0.offset = 0 ∧ f1.offset = 1) (c : Tryz.prog.cellsOf f0.type = 1 ∧ Tryz.prog.cellsOf f1.type = 1) (h : DataW.trod enc Tryz.prog w 0 spare held n t cs = some y) :
    ∃ v0 v1 n' y0 y1, cs = [v0, v1] ∧ DataW.trod enc Tryz.prog w 0 spare held n' f0.type [v0] = some y0 ∧ DataW.trod enc Tryz.prog w 0 spare held n' f1.type [v1] = some y1 := by
  obtain ⟨ys, n', hn', hy, hlen, hyl, hf⟩ := DataW.trod_struct hs h
  rw [hC] at hlen
  match cs, hlen with
  | [v0, v1], _ =>
    match ys, hyl with
    | [y0, y1], _ =>
      refine ⟨v0, v1, n', y0, y1, rfl, ?_, ?_⟩
      · simpa [o.1, c.1] using hf 0 f0 rfl
      · simpa [o.2, c.2] using hf 1 f1 rfl
/-- Hashes. -/
theorem open_thcs {v : Value} {d : DataW H} {p : List MemPlace} {r : Reach} {b : Nat} (hv : Value.okWide Tryz.prog w r b 24 v) (h : DataW.Trod enc Tryz.prog w 0 spare held 24 v d p) :
    ∃ (n : Nat) (l : List (Nat × Nat)), Sl w w.heap.size 2 v n (hcs l) ∧ ∀ h ∈ l, h.1 < 18446744073709551616 ∧ h.2 < 18446744073709551616 := by
  obtain ⟨A, len, cap, fuel, rfl, hf⟩ := slice_shape Tryz.underlying24 hv h
  obtain ⟨D, hs, hD⟩ := sl_of_slice (C := 2) Tryz.underlying24 (by kernel_rfl) (by omega) hf
  obtain ⟨l, h1, h2, h3⟩ := gather (D := D) (f := fun h : Nat × Nat => [.int .u64 (h.1 : Int), .int .u64 (h.2 : Int)]) (good := fun h => h.1 < 18446744073709551616 ∧ h.2 < 18446744073709551616) (n := len) fun i hi => by
    obtain ⟨_, n, y, hy⟩ := hD i hi
    obtain ⟨v0, v1, n', y0, y1, hc, t0, t1⟩ := tfields2 Tryz.underlying42 (by kernel_rfl) ⟨rfl, rfl⟩ ⟨by kernel_rfl, by kernel_rfl⟩ hy
    obtain ⟨a0, e0, _, w0⟩ := DataW.trod_int Tryz.underlying40 t0
    obtain ⟨a1, e1, _, w1⟩ := DataW.trod_int Tryz.underlying40 t1
    simp at e0 e1
    subst e0 e1
    have k0 := wf_u64 w0
    have k1 := wf_u64 w1
    obtain ⟨a0, rfl⟩ := Int.eq_ofNat_of_zero_le k0.1
    obtain ⟨a1, rfl⟩ := Int.eq_ofNat_of_zero_le k1.1
    exact ⟨(a0, a1), hc, by constructor <;> simp <;> omega⟩
  exact ⟨len, l, by rw [h2] at hs; exact hs, h3⟩
theorem array3 {cs : Array Value} (h : cs.size = 3) : ∃ a b c, cs = #[a, b, c] := by
  obtain ⟨l⟩ := cs
  match l, h with
  | [a, b, c], _ => exact ⟨a, b, c, rfl⟩
/-- A config, by value. -/
theorem open_cfg {v : Value} {d : DataW H} {p : List MemPlace} {r : Reach} {b : Nat} (hv : Value.okWide Tryz.prog w r b 23 v) (h : DataW.Trod enc Tryz.prog w 0 spare held 23 v d p) :
    ∃ (N L R : Int), v = .agg #[.int .i64 N, .int .i64 L, .int .i64 R] ∧ (wfI N ∧ wfI L ∧ wfI R) := by
  obtain ⟨cs, rfl, hsz⟩ := okWide_struct Tryz.underlying23 hv
  have hC : Tryz.prog.cellsOf 23 = 3 := by kernel_rfl
  obtain ⟨a, b, c, rfl⟩ := array3 (hsz.trans hC)
  obtain ⟨fuel, hf⟩ := h
  obtain ⟨v0, v1, v2, n', z0, z1, z2, hc, t0, t1, t2⟩ := fields3 Tryz.underlying23 (by kernel_rfl) ⟨rfl, rfl, rfl⟩ ⟨by kernel_rfl, by kernel_rfl, by kernel_rfl⟩ hf
  simp [Value.cells] at hc
  obtain ⟨rfl, rfl, rfl⟩ := hc
  obtain ⟨N, e0, _, w0⟩ := DataW.trod_int Tryz.underlying3 t0
  obtain ⟨L, e1, _, w1⟩ := DataW.trod_int Tryz.underlying3 t1
  obtain ⟨R, e2, _, w2⟩ := DataW.trod_int Tryz.underlying3 t2
  simp at e0 e1 e2
  subst e0 e1 e2
  exact ⟨N, L, R, rfl, wfI_of w0, wfI_of w1, wfI_of w2⟩
/-- Acts. -/
theorem open_tacts {v : Value} {d : DataW H} {p : List MemPlace} {r : Reach} {b : Nat} (hv : Value.okWide Tryz.prog w r b 25 v) (h : DataW.Trod enc Tryz.prog w 0 spare held 25 v d p) :
    ∃ (n : Nat) (l : List (Bool × Int × Int)), Sl w w.heap.size 3 v n (atc l) := by
  obtain ⟨A, len, cap, fuel, rfl, hf⟩ := slice_shape Tryz.underlying25 hv h
  obtain ⟨D, hs, hD⟩ := sl_of_slice (C := 3) Tryz.underlying25 (by kernel_rfl) (by omega) hf
  obtain ⟨l, h1, h2, h3⟩ := gather (D := D) (f := fun e : Bool × Int × Int => [.bool e.1, .int .i64 e.2.1, .int .i64 e.2.2]) (good := fun _ => True) (n := len) fun i hi => by
    obtain ⟨_, n, y, hy⟩ := hD i hi
    obtain ⟨v0, v1, v2, n', y0, y1, y2, hc, t0, t1, t2⟩ := fields3 Tryz.underlying52 (by kernel_rfl) ⟨rfl, rfl, rfl⟩ ⟨by kernel_rfl, by kernel_rfl, by kernel_rfl⟩ hy
    obtain ⟨a0, e0, _⟩ := DataW.trod_bool Tryz.underlying4 t0
    obtain ⟨a1, e1, _, w1⟩ := DataW.trod_int Tryz.underlying3 t1
    obtain ⟨a2, e2, _, w2⟩ := DataW.trod_int Tryz.underlying3 t2
    simp at e0 e1 e2
    subst e0 e1 e2
    exact ⟨(a0, a1, a2), hc, trivial⟩
  exact ⟨len, l, by rw [h2] at hs; exact hs⟩
/-- Hashes are not too many for a memory. -/
theorem hs_sized {v : Value} {d : DataW H} {p : List MemPlace} {r : Reach} {b j n : Nat} {xs : List Value} {ts : List TypeId} {ds : List (DataW H)} (hv : Value.okWide Tryz.prog w r b 24 v) (h : DataW.Trod enc Tryz.prog w 0 spare held 24 v d p)
    (hsz : (DataW.weightsEach Tryz.prog ts ds).all (· ≤ reachBytes) = true) (ht : ts[j]? = some 24) (hd : ds[j]? = some d) (hs : Sl w w.heap.size 2 v n xs) : n ≤ 8796093022208 := by
  obtain ⟨A, len, cap, fuel, rfl, hf⟩ := slice_shape Tryz.underlying24 hv h
  obtain ⟨A', c', he, _⟩ := hs
  injection he with _ he _
  subst he
  rcases DataW.trod_slice Tryz.underlying24 hf with ⟨hc, _⟩ | ⟨a, len', cap', elems, rest, m, _, hc, hx, _, _, _, hl, _⟩
  · simp at hc; omega
  · simp at hc
    obtain ⟨_, rfl, _⟩ := hc
    injection hx with hx _
    rw [hx] at hd
    have h1 := sized_slice hsz ht hd Tryz.underlying24
    have hb : Tryz.prog.bytesOf 42 = 16 := by kernel_rfl
    rw [hb] at h1
    have h2 := reachBytes_lt
    simp at h1
    omega
end
theorem topSearches_walk (N L R : Int) (vh : Value) (nh : Nat) (hs : List (Nat × Nat)) (va : Value) (m : Nat) (acts : List (Bool × Int × Int)) (w : World) (h1 : Sl w w.heap.size 2 vh nh (hcs hs)) (hr : nh ≤ 8796093022208) (h2 : Sl w w.heap.size 3 va m (atc acts)) :
    Calls Tryz.prog 3 #[.agg #[.int .i64 N, .int .i64 L, .int .i64 R], vh, va] w (IsTrue w) := by
  have hl : nh = hs.length := by have := h1.len; rw [len_hcs] at this; omega
  subst hl
  by_cases hf : FewOk N L R
  · by_cases hg : GR N L R (hz hs) []
    · have hp := gp_new hf hg
      obtain ⟨⟨a1, a2⟩, ⟨b1, b2⟩, c1, c2⟩ := hf
      obtain ⟨n, rfl⟩ := Int.eq_ofNat_of_zero_le (show 0 ≤ N by omega)
      obtain ⟨l, rfl⟩ := Int.eq_ofNat_of_zero_le (show 0 ≤ L by omega)
      obtain ⟨k, rfl⟩ := Int.eq_ofNat_of_zero_le (show 0 ≤ R by omega)
      simp only [Int.toNat_natCast] at hp
      exact ts_yes awake_ok h1 hr h2 hp
    · exact ts_no awake_ok h1 hr h2 (.inr hg)
  · exact ts_no awake_ok h1 hr h2 (.inl hf)
end Go.Proofs.YtahodfikhocobaaGreatDoor
