/- The texts AwC, AwD, AwE, AwF, SnG, AwG, AwH, AwI, AwJ, AwK, AwL, merged. No theorem here is a claim by itself. -/
import Derived.Test.YtahodfikhocobaaGreatDoorMb10
import Derived.Test.YtahodfikhocobaaGreatDoorMb5
namespace Go.Proofs.YtahodfikhocobaaGreatDoor
open Go.RowKit
set_option linter.unusedVariables false
set_option linter.unusedSimpArgs false
def NumPost (d : Int) (w : World) (e : Ending) (w' : World) : Prop := e = .returned (.tuple #[.int .u64 d, .int .i64 0]) ∧ Below w.heap.size w w'
set_option maxRecDepth 100000 in
theorem num_1 (w : World) : Calls Tryz.prog 89 #[.string ⟨#[49]⟩] w (NumPost 1 w) := by
 have q0 : ∀ (v : World) ty, (Instr.next (.pointer (some ⟨v.heap.size, 0, none⟩)) true ty).run Tryz.prog (v.iter ⟨#[49]⟩ 0) = .ok (.tuple #[.bool true, .int .i64 0, .int .i32 49]) (v.iter ⟨#[49]⟩ 1) := fun v ty => run_next_ascii v ⟨#[49]⟩ 0 ty (by decide) (by decide)
 have q1 : ∀ (v : World) ty, (Instr.next (.pointer (some ⟨v.heap.size, 0, none⟩)) true ty).run Tryz.prog (v.iter ⟨#[49]⟩ 1) = .ok (.tuple #[.bool false]) (v.iter ⟨#[49]⟩ 1) := fun v ty => run_next_end v ⟨#[49]⟩ 1 ty (by decide)
 have Q0 := hid q0
 have Q1 := hid q1
 clear q0 q1
 go_enter Tryz.func89, Tryz.ntmps89
 go_wp2_with fail
 go_loopw [] (fun wr => ∃ p : Nat, p ≤ 1 ∧ wr = w.iter ⟨#[49]⟩ p) (fun wr => 1 - wr.iterPos w.heap.size)
 case atStart => exact ⟨0, by omega, rfl⟩
 case round =>
  obtain ⟨p, hp, rfl⟩ := hrel
  rcases Nat.lt_or_ge p 1 with h | h
  ·
   obtain rfl : p = 0 := by omega
   have hn := Q0.out w
   go_wp2_with fail
   go_roundw
   case rel => exact ⟨1, by omega, rfl⟩
   case measure => simp
  ·
   obtain rfl : p = 1 := by omega
   have hn := Q1.out w
   obtain ⟨w1, hw1⟩ : ∃ W, W = w.iter ⟨#[49]⟩ 1 := ⟨_, rfl⟩
   have hb : Hid (Below w.heap.size w w1) := hid (by rw [hw1]; exact bel_new _ _)
   rw [← hw1] at hn ⊢
   clear hw1
   go_wp2_with fail
   go_loopw [6] (fun nv wr => ∃ p : Nat, p ≤ 1 ∧ wr = w1.iter ⟨#[49]⟩ p ∧ nv = .int .u64 (if p = 0 then 0 else 1)) (fun _ wr => 1 - wr.iterPos w1.heap.size)
   case atStart => exact ⟨0, by omega, rfl, rfl⟩
   case round =>
    clear hn
    obtain ⟨p, hp, rfl, rfl⟩ := hrel
    rcases Nat.lt_or_ge p 1 with h | h
    ·
     obtain rfl : p = 0 := by omega
     have hn := Q0.out w1
     go_wp2_with fail
     go_roundw
     case rel => exact ⟨1, by omega, rfl, rfl⟩
     case measure => simp
    ·
     obtain rfl : p = 1 := by omega
     have hn := Q1.out w1
     have hb2 : Hid (Below w.heap.size w (w1.iter ⟨#[49]⟩ 1)) := hid (Bl.new hb.out _)
     go_wp2
     exact bodyPost_ret (v := .tuple #[.int .u64 1, .int .i64 0]) (by simp [results, Tryz.results89, go_sem]) rfl ⟨rfl, hb2.out⟩
set_option maxRecDepth 100000 in
theorem num_2 (w : World) : Calls Tryz.prog 89 #[.string ⟨#[50]⟩] w (NumPost 2 w) := by
 have q0 : ∀ (v : World) ty, (Instr.next (.pointer (some ⟨v.heap.size, 0, none⟩)) true ty).run Tryz.prog (v.iter ⟨#[50]⟩ 0) = .ok (.tuple #[.bool true, .int .i64 0, .int .i32 50]) (v.iter ⟨#[50]⟩ 1) := fun v ty => run_next_ascii v ⟨#[50]⟩ 0 ty (by decide) (by decide)
 have q1 : ∀ (v : World) ty, (Instr.next (.pointer (some ⟨v.heap.size, 0, none⟩)) true ty).run Tryz.prog (v.iter ⟨#[50]⟩ 1) = .ok (.tuple #[.bool false]) (v.iter ⟨#[50]⟩ 1) := fun v ty => run_next_end v ⟨#[50]⟩ 1 ty (by decide)
 have Q0 := hid q0
 have Q1 := hid q1
 clear q0 q1
 go_enter Tryz.func89, Tryz.ntmps89
 go_wp2_with fail
 go_loopw [] (fun wr => ∃ p : Nat, p ≤ 1 ∧ wr = w.iter ⟨#[50]⟩ p) (fun wr => 1 - wr.iterPos w.heap.size)
 case atStart => exact ⟨0, by omega, rfl⟩
 case round =>
  obtain ⟨p, hp, rfl⟩ := hrel
  rcases Nat.lt_or_ge p 1 with h | h
  ·
   obtain rfl : p = 0 := by omega
   have hn := Q0.out w
   go_wp2_with fail
   go_roundw
   case rel => exact ⟨1, by omega, rfl⟩
   case measure => simp
  ·
   obtain rfl : p = 1 := by omega
   have hn := Q1.out w
   obtain ⟨w1, hw1⟩ : ∃ W, W = w.iter ⟨#[50]⟩ 1 := ⟨_, rfl⟩
   have hb : Hid (Below w.heap.size w w1) := hid (by rw [hw1]; exact bel_new _ _)
   rw [← hw1] at hn ⊢
   clear hw1
   go_wp2_with fail
   go_loopw [6] (fun nv wr => ∃ p : Nat, p ≤ 1 ∧ wr = w1.iter ⟨#[50]⟩ p ∧ nv = .int .u64 (if p = 0 then 0 else 2)) (fun _ wr => 1 - wr.iterPos w1.heap.size)
   case atStart => exact ⟨0, by omega, rfl, rfl⟩
   case round =>
    clear hn
    obtain ⟨p, hp, rfl, rfl⟩ := hrel
    rcases Nat.lt_or_ge p 1 with h | h
    ·
     obtain rfl : p = 0 := by omega
     have hn := Q0.out w1
     go_wp2_with fail
     go_roundw
     case rel => exact ⟨1, by omega, rfl, rfl⟩
     case measure => simp
    ·
     obtain rfl : p = 1 := by omega
     have hn := Q1.out w1
     have hb2 : Hid (Below w.heap.size w (w1.iter ⟨#[50]⟩ 1)) := hid (Bl.new hb.out _)
     go_wp2
     exact bodyPost_ret (v := .tuple #[.int .u64 2, .int .i64 0]) (by simp [results, Tryz.results89, go_sem]) rfl ⟨rfl, hb2.out⟩
set_option maxRecDepth 100000 in
theorem num_3 (w : World) : Calls Tryz.prog 89 #[.string ⟨#[51]⟩] w (NumPost 3 w) := by
 have q0 : ∀ (v : World) ty, (Instr.next (.pointer (some ⟨v.heap.size, 0, none⟩)) true ty).run Tryz.prog (v.iter ⟨#[51]⟩ 0) = .ok (.tuple #[.bool true, .int .i64 0, .int .i32 51]) (v.iter ⟨#[51]⟩ 1) := fun v ty => run_next_ascii v ⟨#[51]⟩ 0 ty (by decide) (by decide)
 have q1 : ∀ (v : World) ty, (Instr.next (.pointer (some ⟨v.heap.size, 0, none⟩)) true ty).run Tryz.prog (v.iter ⟨#[51]⟩ 1) = .ok (.tuple #[.bool false]) (v.iter ⟨#[51]⟩ 1) := fun v ty => run_next_end v ⟨#[51]⟩ 1 ty (by decide)
 have Q0 := hid q0
 have Q1 := hid q1
 clear q0 q1
 go_enter Tryz.func89, Tryz.ntmps89
 go_wp2_with fail
 go_loopw [] (fun wr => ∃ p : Nat, p ≤ 1 ∧ wr = w.iter ⟨#[51]⟩ p) (fun wr => 1 - wr.iterPos w.heap.size)
 case atStart => exact ⟨0, by omega, rfl⟩
 case round =>
  obtain ⟨p, hp, rfl⟩ := hrel
  rcases Nat.lt_or_ge p 1 with h | h
  ·
   obtain rfl : p = 0 := by omega
   have hn := Q0.out w
   go_wp2_with fail
   go_roundw
   case rel => exact ⟨1, by omega, rfl⟩
   case measure => simp
  ·
   obtain rfl : p = 1 := by omega
   have hn := Q1.out w
   obtain ⟨w1, hw1⟩ : ∃ W, W = w.iter ⟨#[51]⟩ 1 := ⟨_, rfl⟩
   have hb : Hid (Below w.heap.size w w1) := hid (by rw [hw1]; exact bel_new _ _)
   rw [← hw1] at hn ⊢
   clear hw1
   go_wp2_with fail
   go_loopw [6] (fun nv wr => ∃ p : Nat, p ≤ 1 ∧ wr = w1.iter ⟨#[51]⟩ p ∧ nv = .int .u64 (if p = 0 then 0 else 3)) (fun _ wr => 1 - wr.iterPos w1.heap.size)
   case atStart => exact ⟨0, by omega, rfl, rfl⟩
   case round =>
    clear hn
    obtain ⟨p, hp, rfl, rfl⟩ := hrel
    rcases Nat.lt_or_ge p 1 with h | h
    ·
     obtain rfl : p = 0 := by omega
     have hn := Q0.out w1
     go_wp2_with fail
     go_roundw
     case rel => exact ⟨1, by omega, rfl, rfl⟩
     case measure => simp
    ·
     obtain rfl : p = 1 := by omega
     have hn := Q1.out w1
     have hb2 : Hid (Below w.heap.size w (w1.iter ⟨#[51]⟩ 1)) := hid (Bl.new hb.out _)
     go_wp2
     exact bodyPost_ret (v := .tuple #[.int .u64 3, .int .i64 0]) (by simp [results, Tryz.results89, go_sem]) rfl ⟨rfl, hb2.out⟩
set_option maxRecDepth 100000 in
theorem num_4 (w : World) : Calls Tryz.prog 89 #[.string ⟨#[52]⟩] w (NumPost 4 w) := by
 have q0 : ∀ (v : World) ty, (Instr.next (.pointer (some ⟨v.heap.size, 0, none⟩)) true ty).run Tryz.prog (v.iter ⟨#[52]⟩ 0) = .ok (.tuple #[.bool true, .int .i64 0, .int .i32 52]) (v.iter ⟨#[52]⟩ 1) := fun v ty => run_next_ascii v ⟨#[52]⟩ 0 ty (by decide) (by decide)
 have q1 : ∀ (v : World) ty, (Instr.next (.pointer (some ⟨v.heap.size, 0, none⟩)) true ty).run Tryz.prog (v.iter ⟨#[52]⟩ 1) = .ok (.tuple #[.bool false]) (v.iter ⟨#[52]⟩ 1) := fun v ty => run_next_end v ⟨#[52]⟩ 1 ty (by decide)
 have Q0 := hid q0
 have Q1 := hid q1
 clear q0 q1
 go_enter Tryz.func89, Tryz.ntmps89
 go_wp2_with fail
 go_loopw [] (fun wr => ∃ p : Nat, p ≤ 1 ∧ wr = w.iter ⟨#[52]⟩ p) (fun wr => 1 - wr.iterPos w.heap.size)
 case atStart => exact ⟨0, by omega, rfl⟩
 case round =>
  obtain ⟨p, hp, rfl⟩ := hrel
  rcases Nat.lt_or_ge p 1 with h | h
  ·
   obtain rfl : p = 0 := by omega
   have hn := Q0.out w
   go_wp2_with fail
   go_roundw
   case rel => exact ⟨1, by omega, rfl⟩
   case measure => simp
  ·
   obtain rfl : p = 1 := by omega
   have hn := Q1.out w
   obtain ⟨w1, hw1⟩ : ∃ W, W = w.iter ⟨#[52]⟩ 1 := ⟨_, rfl⟩
   have hb : Hid (Below w.heap.size w w1) := hid (by rw [hw1]; exact bel_new _ _)
   rw [← hw1] at hn ⊢
   clear hw1
   go_wp2_with fail
   go_loopw [6] (fun nv wr => ∃ p : Nat, p ≤ 1 ∧ wr = w1.iter ⟨#[52]⟩ p ∧ nv = .int .u64 (if p = 0 then 0 else 4)) (fun _ wr => 1 - wr.iterPos w1.heap.size)
   case atStart => exact ⟨0, by omega, rfl, rfl⟩
   case round =>
    clear hn
    obtain ⟨p, hp, rfl, rfl⟩ := hrel
    rcases Nat.lt_or_ge p 1 with h | h
    ·
     obtain rfl : p = 0 := by omega
     have hn := Q0.out w1
     go_wp2_with fail
     go_roundw
     case rel => exact ⟨1, by omega, rfl, rfl⟩
     case measure => simp
    ·
     obtain rfl : p = 1 := by omega
     have hn := Q1.out w1
     have hb2 : Hid (Below w.heap.size w (w1.iter ⟨#[52]⟩ 1)) := hid (Bl.new hb.out _)
     go_wp2
     exact bodyPost_ret (v := .tuple #[.int .u64 4, .int .i64 0]) (by simp [results, Tryz.results89, go_sem]) rfl ⟨rfl, hb2.out⟩
set_option maxRecDepth 100000 in
theorem num_6 (w : World) : Calls Tryz.prog 89 #[.string ⟨#[54]⟩] w (NumPost 6 w) := by
 have q0 : ∀ (v : World) ty, (Instr.next (.pointer (some ⟨v.heap.size, 0, none⟩)) true ty).run Tryz.prog (v.iter ⟨#[54]⟩ 0) = .ok (.tuple #[.bool true, .int .i64 0, .int .i32 54]) (v.iter ⟨#[54]⟩ 1) := fun v ty => run_next_ascii v ⟨#[54]⟩ 0 ty (by decide) (by decide)
 have q1 : ∀ (v : World) ty, (Instr.next (.pointer (some ⟨v.heap.size, 0, none⟩)) true ty).run Tryz.prog (v.iter ⟨#[54]⟩ 1) = .ok (.tuple #[.bool false]) (v.iter ⟨#[54]⟩ 1) := fun v ty => run_next_end v ⟨#[54]⟩ 1 ty (by decide)
 have Q0 := hid q0
 have Q1 := hid q1
 clear q0 q1
 go_enter Tryz.func89, Tryz.ntmps89
 go_wp2_with fail
 go_loopw [] (fun wr => ∃ p : Nat, p ≤ 1 ∧ wr = w.iter ⟨#[54]⟩ p) (fun wr => 1 - wr.iterPos w.heap.size)
 case atStart => exact ⟨0, by omega, rfl⟩
 case round =>
  obtain ⟨p, hp, rfl⟩ := hrel
  rcases Nat.lt_or_ge p 1 with h | h
  ·
   obtain rfl : p = 0 := by omega
   have hn := Q0.out w
   go_wp2_with fail
   go_roundw
   case rel => exact ⟨1, by omega, rfl⟩
   case measure => simp
  ·
   obtain rfl : p = 1 := by omega
   have hn := Q1.out w
   obtain ⟨w1, hw1⟩ : ∃ W, W = w.iter ⟨#[54]⟩ 1 := ⟨_, rfl⟩
   have hb : Hid (Below w.heap.size w w1) := hid (by rw [hw1]; exact bel_new _ _)
   rw [← hw1] at hn ⊢
   clear hw1
   go_wp2_with fail
   go_loopw [6] (fun nv wr => ∃ p : Nat, p ≤ 1 ∧ wr = w1.iter ⟨#[54]⟩ p ∧ nv = .int .u64 (if p = 0 then 0 else 6)) (fun _ wr => 1 - wr.iterPos w1.heap.size)
   case atStart => exact ⟨0, by omega, rfl, rfl⟩
   case round =>
    clear hn
    obtain ⟨p, hp, rfl, rfl⟩ := hrel
    rcases Nat.lt_or_ge p 1 with h | h
    ·
     obtain rfl : p = 0 := by omega
     have hn := Q0.out w1
     go_wp2_with fail
     go_roundw
     case rel => exact ⟨1, by omega, rfl, rfl⟩
     case measure => simp
    ·
     obtain rfl : p = 1 := by omega
     have hn := Q1.out w1
     have hb2 : Hid (Below w.heap.size w (w1.iter ⟨#[54]⟩ 1)) := hid (Bl.new hb.out _)
     go_wp2
     exact bodyPost_ret (v := .tuple #[.int .u64 6, .int .i64 0]) (by simp [results, Tryz.results89, go_sem]) rfl ⟨rfl, hb2.out⟩
set_option maxRecDepth 100000 in
theorem num_8 (w : World) : Calls Tryz.prog 89 #[.string ⟨#[56]⟩] w (NumPost 8 w) := by
 have q0 : ∀ (v : World) ty, (Instr.next (.pointer (some ⟨v.heap.size, 0, none⟩)) true ty).run Tryz.prog (v.iter ⟨#[56]⟩ 0) = .ok (.tuple #[.bool true, .int .i64 0, .int .i32 56]) (v.iter ⟨#[56]⟩ 1) := fun v ty => run_next_ascii v ⟨#[56]⟩ 0 ty (by decide) (by decide)
 have q1 : ∀ (v : World) ty, (Instr.next (.pointer (some ⟨v.heap.size, 0, none⟩)) true ty).run Tryz.prog (v.iter ⟨#[56]⟩ 1) = .ok (.tuple #[.bool false]) (v.iter ⟨#[56]⟩ 1) := fun v ty => run_next_end v ⟨#[56]⟩ 1 ty (by decide)
 have Q0 := hid q0
 have Q1 := hid q1
 clear q0 q1
 go_enter Tryz.func89, Tryz.ntmps89
 go_wp2_with fail
 go_loopw [] (fun wr => ∃ p : Nat, p ≤ 1 ∧ wr = w.iter ⟨#[56]⟩ p) (fun wr => 1 - wr.iterPos w.heap.size)
 case atStart => exact ⟨0, by omega, rfl⟩
 case round =>
  obtain ⟨p, hp, rfl⟩ := hrel
  rcases Nat.lt_or_ge p 1 with h | h
  ·
   obtain rfl : p = 0 := by omega
   have hn := Q0.out w
   go_wp2_with fail
   go_roundw
   case rel => exact ⟨1, by omega, rfl⟩
   case measure => simp
  ·
   obtain rfl : p = 1 := by omega
   have hn := Q1.out w
   obtain ⟨w1, hw1⟩ : ∃ W, W = w.iter ⟨#[56]⟩ 1 := ⟨_, rfl⟩
   have hb : Hid (Below w.heap.size w w1) := hid (by rw [hw1]; exact bel_new _ _)
   rw [← hw1] at hn ⊢
   clear hw1
   go_wp2_with fail
   go_loopw [6] (fun nv wr => ∃ p : Nat, p ≤ 1 ∧ wr = w1.iter ⟨#[56]⟩ p ∧ nv = .int .u64 (if p = 0 then 0 else 8)) (fun _ wr => 1 - wr.iterPos w1.heap.size)
   case atStart => exact ⟨0, by omega, rfl, rfl⟩
   case round =>
    clear hn
    obtain ⟨p, hp, rfl, rfl⟩ := hrel
    rcases Nat.lt_or_ge p 1 with h | h
    ·
     obtain rfl : p = 0 := by omega
     have hn := Q0.out w1
     go_wp2_with fail
     go_roundw
     case rel => exact ⟨1, by omega, rfl, rfl⟩
     case measure => simp
    ·
     obtain rfl : p = 1 := by omega
     have hn := Q1.out w1
     have hb2 : Hid (Below w.heap.size w (w1.iter ⟨#[56]⟩ 1)) := hid (Bl.new hb.out _)
     go_wp2
     exact bodyPost_ret (v := .tuple #[.int .u64 8, .int .i64 0]) (by simp [results, Tryz.results89, go_sem]) rfl ⟨rfl, hb2.out⟩
theorem cmd_new (w : World) : Calls Tryz.prog 63 #[.string ⟨#[110, 101, 119]⟩] w fun e w' => e = .returned (.tuple #[.int .i64 (-1), .int .i64 3]) ∧ w = w' := by
 go_enter Tryz.func63, Tryz.ntmps63
 go_wp2
 exact bodyPost_ret (v := .tuple #[.int .i64 (-1), .int .i64 3]) (by simp [results, Tryz.results63, go_sem]) rfl ⟨rfl, rfl⟩
theorem cmd_vertex (w : World) : Calls Tryz.prog 63 #[.string ⟨#[118, 101, 114, 116, 101, 120]⟩] w fun e w' => e = .returned (.tuple #[.int .i64 1, .int .i64 1]) ∧ w = w' := by
 go_enter Tryz.func63, Tryz.ntmps63
 go_wp2
 exact bodyPost_ret (v := .tuple #[.int .i64 1, .int .i64 1]) (by simp [results, Tryz.results63, go_sem]) rfl ⟨rfl, rfl⟩
theorem cmd_edge (w : World) : Calls Tryz.prog 63 #[.string ⟨#[101, 100, 103, 101]⟩] w fun e w' => e = .returned (.tuple #[.int .i64 3, .int .i64 2]) ∧ w = w' := by
 go_enter Tryz.func63, Tryz.ntmps63
 go_wp2
 exact bodyPost_ret (v := .tuple #[.int .i64 3, .int .i64 2]) (by simp [results, Tryz.results63, go_sem]) rfl ⟨rfl, rfl⟩
theorem cmd_connected (w : World) : Calls Tryz.prog 63 #[.string ⟨#[99, 111, 110, 110, 101, 99, 116, 101, 100]⟩] w fun e w' => e = .returned (.tuple #[.int .i64 8, .int .i64 2]) ∧ w = w' := by
 go_enter Tryz.func63, Tryz.ntmps63
 go_wp2
 exact bodyPost_ret (v := .tuple #[.int .i64 8, .int .i64 2]) (by simp [results, Tryz.results63, go_sem]) rfl ⟨rfl, rfl⟩
theorem cmd_audit (w : World) : Calls Tryz.prog 63 #[.string ⟨#[97, 117, 100, 105, 116]⟩] w fun e w' => e = .returned (.tuple #[.int .i64 13, .int .i64 0]) ∧ w = w' := by
 go_enter Tryz.func63, Tryz.ntmps63
 go_wp2
 exact bodyPost_ret (v := .tuple #[.int .i64 13, .int .i64 0]) (by simp [results, Tryz.results63, go_sem]) rfl ⟨rfl, rfl⟩
theorem cmd_size (w : World) : Calls Tryz.prog 63 #[.string ⟨#[115, 105, 122, 101]⟩] w fun e w' => e = .returned (.tuple #[.int .i64 9, .int .i64 1]) ∧ w = w' := by
 go_enter Tryz.func63, Tryz.ntmps63
 go_wp2
 exact bodyPost_ret (v := .tuple #[.int .i64 9, .int .i64 1]) (by simp [results, Tryz.results63, go_sem]) rfl ⟨rfl, rfl⟩
def dg (d : Nat) : ByteArray := ⟨#[UInt8.ofNat (48 + d)]⟩
def IsDg (d : Nat) : Prop := d = 1 ∨ d = 2 ∨ d = 3 ∨ d = 4 ∨ d = 6 ∨ d = 8
theorem num_dg {d : Nat} (h : IsDg d) (w : World) : Calls Tryz.prog 89 #[.string (dg d)] w (NumPost d w) := by
 rcases h with rfl | rfl | rfl | rfl | rfl | rfl
 · exact num_1 w
 · exact num_2 w
 · exact num_3 w
 · exact num_4 w
 · exact num_6 w
 · exact num_8 w
def NumsPost (ds : List Nat) (w : World) (e : Ending) (w' : World) : Prop := ∃ v, e = .returned (.tuple #[v, .int .i64 0]) ∧ Sl w' w'.heap.size 1 v ds.length (us ds) ∧ Below w.heap.size w w'
theorem strs_cell {w : World} {b o : Nat} {l : List ByteArray} (h : ∀ j u, (strs l)[j]? = some u → w.cell? ⟨b, o + j, none⟩ = some u) {k : Nat} (hk : k < l.length) : w.cell? ⟨b, o + k, none⟩ = some (.string l[k]) :=
 h k _ (by simp [strs, hk])
set_option maxHeartbeats 4000000 in
set_option maxRecDepth 100000 in
theorem nums_ok {ds : List Nat} (hd : ∀ d ∈ ds, IsDg d) (hl : ds.length ≤ 1000) {v : Value} {w : World} (hs : Sl w w.heap.size 1 v ds.length (strs (ds.map dg))) :
  Calls Tryz.prog 66 #[v] w (NumsPost ds w) := by
 obtain ⟨A, c, rfl, hnc, hcm, hll, hx⟩ := id hs
 have HS := hid hs
 have HD := hid hd
 clear hx hll hcm hnc hd hs
 obtain ⟨m, hm⟩ : ∃ m, m = ds.length := ⟨_, rfl⟩
 have HM := hid hm
 rw [← hm] at hl HS ⊢
 clear hm
 go_enter Tryz.func66, Tryz.ntmps66
 go_wp2_with fail
 go_loopw [4, 11] (fun ov iv wr => ∃ (i : Nat) (vo : Value), vo = ov ∧ iv = .int .i64 (i : Int) ∧ i ≤ m ∧ Hid (wr.ownsRow w.heap.size 40 1 vo i (us (ds.take i))) ∧ Hid (Below w.heap.size w wr)) (fun _ iv _ => m - (intOf iv).toNat)
 case atStart => exact ⟨0, _, rfl, rfl, Nat.zero_le _, hid (World.ownsRow_nil _ _ _ _), hid (Below.refl _ _)⟩
 case round =>
  obtain ⟨i, vo, rfl, rfl, hi, HO, HB⟩ := hrel
  by_cases hlt : i < m
  case pos =>
   have hj : (i : Int) < (m : Int) := by omega
   have hj0 : (0 : Int) ≤ (i : Int) := by omega
   have SR := HS.out.call HB.out
   obtain ⟨_, _, he, _, _, _, hx⟩ := SR
   injection he with he1 he2 he3
   subst he1 he3
   obtain ⟨b, o, rfl, hb, hcell⟩ := hx (by omega)
   have hil : i < ds.length := by rw [← HM.out]; exact hlt
   have g := strs_cell hcell (k := i) (by simpa using hil)
   rw [List.getElem_map] at g
   obtain ⟨d, hdd⟩ : ∃ d, d = ds[i] := ⟨_, rfl⟩
   rw [← hdd] at g
   have HG : Hid (IsDg d) := hid (HD.out d (by rw [hdd]; exact List.getElem_mem _))
   have HT : Hid (us (ds.take i) ++ [.int .u64 (d : Int)] = us (ds.take (i + 1))) := hid (by rw [List.take_succ_eq_append_getElem hil, ← hdd]; simp [us])
   clear hdd hx hcell hb
   go_wp2_with fail
   refine (num_dg HG.out _).mono ?_; rintro e w2 ⟨rfl, b2⟩
   have HO2 := hid (own_below HO.out b2)
   have HB2 := hid (Bl.call HB.out b2)
   have SZ2 := HB2.out.size
   clear b2
   go_wp2_with (at_builtin; refine wl_app1 rfl _ _ Tus rfl (news := [.int .u64 (d : Int)]) rfl HO2.out rfl rfl (us_one [d]) (by omega) SZ2 ?_)
   intro v3 w3 hO3 hB3
   have HO3 : Hid (w3.ownsRow w.heap.size 40 1 v3 (i + 1) (us (ds.take (i + 1)))) := hid (by rw [← HT.out]; exact hO3)
   have HB3 := hid (HB2.out.trans hB3)
   clear hO3 hB3 SZ2
   go_wp2
   go_roundw
   case rel => exact ⟨i + 1, _, rfl, by go_num, by omega, HO3, HB3⟩
   case measure => simp [intOf]; omega
  case neg =>
   have hj : ¬ (i : Int) < (m : Int) := by omega
   obtain rfl : i = m := by omega
   have HF : Hid (Sl wr wr.heap.size 1 vo i (us ds)) := hid (by have := Sl.of_own HO.out; rwa [List.take_of_length_le (by have := HM.out; omega)] at this)
   have HL := HM.out
   go_wp2
   refine bodyPost_ret (v := .tuple #[vo, .int .i64 0]) (by simp [results, Tryz.results66, go_sem]) rfl ⟨vo, rfl, by rw [← HL]; exact HF.out, HB.out⟩
attribute [local go_sem ↓] Go.wp_at_zero Go.wp_at_succ
theorem dright_ok {A : Option Addr} {n c at_ : Nat} (h : at_ ≤ n) (hn : n ≤ 1000000) (w : World) : Calls Tryz.prog 153 #[.agg #[.slice A n c, .int .i64 (at_ : Int)]] w fun e w' => e = .returned (.bool true) ∧ Below w.heap.size w w' := by
 have k1 : (0 : Int) ≤ (at_ : Int) := by omega
 have k2 : (at_ : Int) ≤ (n : Int) := by omega
 have D0 := Blk.new w 82 [.slice A n c, .int .i64 (at_ : Int)]
 have x0 := D0.cell 0
 have x1 := D0.cell 1
 have hB : Hid (Below w.heap.size w (w.alloc (.cells #[.slice A n c, .int .i64 (at_ : Int)] 82))) := hid (bel_new _ _)
 clear D0
 go_enter Tryz.func153, Tryz.ntmps153
 go_wp2
 go_ret
 exact ⟨rfl, hB.out⟩
set_option maxHeartbeats 4000000 in
set_option maxRecDepth 100000 in
theorem dbelow_0 {A : Option Addr} {c : Nat} {w : World} (hs : Sl w w.heap.size 1 (.slice A 4 c) 4 (us [7, 1, 9, 2])) : Calls Tryz.prog 154 #[.agg #[.slice A 4 c, .int .i64 0]] w fun e w' => e = .returned (.tuple #[.int .u64 7, .agg #[.slice A 4 c, .int .i64 1], .int .i64 0]) ∧ Below w.heap.size w w' := by
 obtain ⟨_, _, he, hnc, hcm, _, hx⟩ := id hs
 injection he with he1 he2 he3
 subst he1 he3
 obtain ⟨b, o, rfl, hb, hcell⟩ := hx (by omega)
 have y : w.cell? ⟨b, o, none⟩ = some (.int .u64 7) := hcell 0 (.int .u64 7) (by rfl)
 have Y := hid y
 clear hx hcell y hs
 obtain ⟨w1, hw1⟩ : ∃ W, W = w.alloc (.cells #[.slice (some ⟨b, o, none⟩) 4 c, .int .i64 0] 82) := ⟨_, rfl⟩
 obtain ⟨w2, hw2⟩ : ∃ W, W = w1.alloc (.cells #[.slice none 0 0, .int .i64 0] 82) := ⟨_, rfl⟩
 obtain ⟨K1, hK1⟩ : ∃ K, K = w.heap.size := ⟨_, rfl⟩
 obtain ⟨K2, hK2⟩ : ∃ K, K = K1 + 1 := ⟨_, rfl⟩
 have hsz1 : w1.heap.size = K1 + 1 := by rw [hw1, hK1]; simp
 have D1 : Hid (Blk w2 K1 82 [.slice (some ⟨b, o, none⟩) 4 c, .int .i64 0]) := hid (by rw [hw2, hw1, hK1]; exact (Blk.new _ _ _).alloc _)
 have D2 : Hid (Blk w2 K2 82 [.slice none 0 0, .int .i64 0]) := hid (by rw [hw2, hK2, ← hsz1]; exact Blk.new _ _ _)
 have HB : Hid (Below w.heap.size w w2) := hid (by rw [hw2, hw1]; exact Bl.new (bel_new _ _) _)
 have HW1 := hid hw1
 have HW2 := hid hw2
 have HK1 := hid hK1
 have HK2 := hid hK2
 have LO2 : Hid (w.heap.size ≤ K2) := hid (by omega)
 have hne : K1 ≠ K2 := by omega
 clear hw1 hw2 hK1 hK2 hsz1
 go_enter Tryz.func154, Tryz.ntmps154
 go_upto_region 1 with (fail)
 rw [← HW1.out, ← HK1.out, ← HK2.out, ← HW2.out]
 have n0 := D1.out.cell 0
 have n1 := D1.out.cell 1
 go_wp2_with fail
 refine (dright_ok (n := 4) (c := c) (A := some ⟨b, o, none⟩) (at_ := 0) (by omega) (by omega) _).mono ?_; rintro e w3 ⟨rfl, b3⟩
 clear n0 n1
 replace D1 := hid (D1.out.on b3)
 replace D2 := hid (D2.out.on b3)
 replace HB := hid (Bl.call HB.out b3)
 replace Y : Hid (w3.cell? ⟨b, o, none⟩ = some (.int .u64 7)) := hid (cell_later HB.out Y.out)
 clear b3
 have n0 := D1.out.cell 0
 have n1 := D1.out.cell 1
 have y := Y.out
 go_wp2_with fail
 go_loopw [5] (fun iv wr => iv = .int .i64 0 ∧ wr = w3) (fun _ _ => 0)
 case atStart => exact ⟨rfl, rfl⟩
 case round =>
  obtain ⟨rfl, rfl⟩ := hrel
  have q1 : bits .and .u64 7 2305843009213693951 = 7 := by decide
  have q2 : decide ((7 : Int) < 2305843009213693951) = true := by decide
  go_upto_region 8 with (fail)
  have q3 : IntKind.i64.wrap 1 = 1 := by decide
  have p0 := D2.out.cell 0
  have p1 := D2.out.cell 1
  have f0 := D2.out.frozen 0
  have f1 := D2.out.frozen 1
  go_region
  obtain ⟨w9, hw9⟩ : ∃ W, W = ((wr.setCell ⟨K2, 0, none⟩ (.slice (some ⟨b, o, none⟩) 4 c)).setCell ⟨K2, 1, none⟩ (.int .i64 1)).drew := ⟨_, rfl⟩
  have D9 : Hid (Blk w9 K2 82 [.slice (some ⟨b, o, none⟩) 4 c, .int .i64 1]) := hid (by rw [hw9]; exact (D2.out.put 0 _).put 1 _)
  have HB9 : Hid (Below w.heap.size w w9) := hid (by rw [hw9]; exact Bl.qt ((HB.out.setCell (p := ⟨K2, 0, none⟩) LO2.out _).setCell (p := ⟨K2, 1, none⟩) LO2.out _) (qt_drew _))
  clear p0 p1 f0 f1 n0 n1
  have p0 := D9.out.cell 0
  have p1 := D9.out.cell 1
  rw [← hw9]
  clear hw9
  go_wp2
  exact bodyPost_ret (v := .tuple #[.int .u64 7, .agg #[.slice (some ⟨b, o, none⟩) 4 c, .int .i64 1], .int .i64 0]) (by simp [results, Tryz.results154, go_sem, p0, p1]) rfl ⟨rfl, HB9.out⟩
set_option maxHeartbeats 4000000 in
set_option maxRecDepth 100000 in
theorem dbelow_1 {A : Option Addr} {c : Nat} {w : World} (hs : Sl w w.heap.size 1 (.slice A 4 c) 4 (us [7, 1, 9, 2])) : Calls Tryz.prog 154 #[.agg #[.slice A 4 c, .int .i64 1]] w fun e w' => e = .returned (.tuple #[.int .u64 1, .agg #[.slice A 4 c, .int .i64 2], .int .i64 0]) ∧ Below w.heap.size w w' := by
 obtain ⟨_, _, he, hnc, hcm, _, hx⟩ := id hs
 injection he with he1 he2 he3
 subst he1 he3
 obtain ⟨b, o, rfl, hb, hcell⟩ := hx (by omega)
 have y : w.cell? ⟨b, o + 1, none⟩ = some (.int .u64 1) := hcell 1 (.int .u64 1) (by rfl)
 have Y := hid y
 clear hx hcell y hs
 obtain ⟨w1, hw1⟩ : ∃ W, W = w.alloc (.cells #[.slice (some ⟨b, o, none⟩) 4 c, .int .i64 1] 82) := ⟨_, rfl⟩
 obtain ⟨w2, hw2⟩ : ∃ W, W = w1.alloc (.cells #[.slice none 0 0, .int .i64 0] 82) := ⟨_, rfl⟩
 obtain ⟨K1, hK1⟩ : ∃ K, K = w.heap.size := ⟨_, rfl⟩
 obtain ⟨K2, hK2⟩ : ∃ K, K = K1 + 1 := ⟨_, rfl⟩
 have hsz1 : w1.heap.size = K1 + 1 := by rw [hw1, hK1]; simp
 have D1 : Hid (Blk w2 K1 82 [.slice (some ⟨b, o, none⟩) 4 c, .int .i64 1]) := hid (by rw [hw2, hw1, hK1]; exact (Blk.new _ _ _).alloc _)
 have D2 : Hid (Blk w2 K2 82 [.slice none 0 0, .int .i64 0]) := hid (by rw [hw2, hK2, ← hsz1]; exact Blk.new _ _ _)
 have HB : Hid (Below w.heap.size w w2) := hid (by rw [hw2, hw1]; exact Bl.new (bel_new _ _) _)
 have HW1 := hid hw1
 have HW2 := hid hw2
 have HK1 := hid hK1
 have HK2 := hid hK2
 have LO2 : Hid (w.heap.size ≤ K2) := hid (by omega)
 have hne : K1 ≠ K2 := by omega
 clear hw1 hw2 hK1 hK2 hsz1
 go_enter Tryz.func154, Tryz.ntmps154
 go_upto_region 1 with (fail)
 rw [← HW1.out, ← HK1.out, ← HK2.out, ← HW2.out]
 have n0 := D1.out.cell 0
 have n1 := D1.out.cell 1
 go_wp2_with fail
 refine (dright_ok (n := 4) (c := c) (A := some ⟨b, o, none⟩) (at_ := 1) (by omega) (by omega) _).mono ?_; rintro e w3 ⟨rfl, b3⟩
 clear n0 n1
 replace D1 := hid (D1.out.on b3)
 replace D2 := hid (D2.out.on b3)
 replace HB := hid (Bl.call HB.out b3)
 replace Y : Hid (w3.cell? ⟨b, o + 1, none⟩ = some (.int .u64 1)) := hid (cell_later HB.out Y.out)
 clear b3
 have n0 := D1.out.cell 0
 have n1 := D1.out.cell 1
 have y := Y.out
 go_wp2_with fail
 go_loopw [5] (fun iv wr => iv = .int .i64 1 ∧ wr = w3) (fun _ _ => 0)
 case atStart => exact ⟨rfl, rfl⟩
 case round =>
  obtain ⟨rfl, rfl⟩ := hrel
  have q1 : bits .and .u64 1 2305843009213693951 = 1 := by decide
  have q2 : decide ((1 : Int) < 2305843009213693951) = true := by decide
  go_upto_region 8 with (fail)
  have q3 : IntKind.i64.wrap 2 = 2 := by decide
  have p0 := D2.out.cell 0
  have p1 := D2.out.cell 1
  have f0 := D2.out.frozen 0
  have f1 := D2.out.frozen 1
  go_region
  obtain ⟨w9, hw9⟩ : ∃ W, W = ((wr.setCell ⟨K2, 0, none⟩ (.slice (some ⟨b, o, none⟩) 4 c)).setCell ⟨K2, 1, none⟩ (.int .i64 2)).drew := ⟨_, rfl⟩
  have D9 : Hid (Blk w9 K2 82 [.slice (some ⟨b, o, none⟩) 4 c, .int .i64 2]) := hid (by rw [hw9]; exact (D2.out.put 0 _).put 1 _)
  have HB9 : Hid (Below w.heap.size w w9) := hid (by rw [hw9]; exact Bl.qt ((HB.out.setCell (p := ⟨K2, 0, none⟩) LO2.out _).setCell (p := ⟨K2, 1, none⟩) LO2.out _) (qt_drew _))
  clear p0 p1 f0 f1 n0 n1
  have p0 := D9.out.cell 0
  have p1 := D9.out.cell 1
  rw [← hw9]
  clear hw9
  go_wp2
  exact bodyPost_ret (v := .tuple #[.int .u64 1, .agg #[.slice (some ⟨b, o, none⟩) 4 c, .int .i64 2], .int .i64 0]) (by simp [results, Tryz.results154, go_sem, p0, p1]) rfl ⟨rfl, HB9.out⟩
set_option maxHeartbeats 4000000 in
set_option maxRecDepth 100000 in
theorem dbelow_2 {A : Option Addr} {c : Nat} {w : World} (hs : Sl w w.heap.size 1 (.slice A 4 c) 4 (us [7, 1, 9, 2])) : Calls Tryz.prog 154 #[.agg #[.slice A 4 c, .int .i64 2]] w fun e w' => e = .returned (.tuple #[.int .u64 9, .agg #[.slice A 4 c, .int .i64 3], .int .i64 0]) ∧ Below w.heap.size w w' := by
 obtain ⟨_, _, he, hnc, hcm, _, hx⟩ := id hs
 injection he with he1 he2 he3
 subst he1 he3
 obtain ⟨b, o, rfl, hb, hcell⟩ := hx (by omega)
 have y : w.cell? ⟨b, o + 2, none⟩ = some (.int .u64 9) := hcell 2 (.int .u64 9) (by rfl)
 have Y := hid y
 clear hx hcell y hs
 obtain ⟨w1, hw1⟩ : ∃ W, W = w.alloc (.cells #[.slice (some ⟨b, o, none⟩) 4 c, .int .i64 2] 82) := ⟨_, rfl⟩
 obtain ⟨w2, hw2⟩ : ∃ W, W = w1.alloc (.cells #[.slice none 0 0, .int .i64 0] 82) := ⟨_, rfl⟩
 obtain ⟨K1, hK1⟩ : ∃ K, K = w.heap.size := ⟨_, rfl⟩
 obtain ⟨K2, hK2⟩ : ∃ K, K = K1 + 1 := ⟨_, rfl⟩
 have hsz1 : w1.heap.size = K1 + 1 := by rw [hw1, hK1]; simp
 have D1 : Hid (Blk w2 K1 82 [.slice (some ⟨b, o, none⟩) 4 c, .int .i64 2]) := hid (by rw [hw2, hw1, hK1]; exact (Blk.new _ _ _).alloc _)
 have D2 : Hid (Blk w2 K2 82 [.slice none 0 0, .int .i64 0]) := hid (by rw [hw2, hK2, ← hsz1]; exact Blk.new _ _ _)
 have HB : Hid (Below w.heap.size w w2) := hid (by rw [hw2, hw1]; exact Bl.new (bel_new _ _) _)
 have HW1 := hid hw1
 have HW2 := hid hw2
 have HK1 := hid hK1
 have HK2 := hid hK2
 have LO2 : Hid (w.heap.size ≤ K2) := hid (by omega)
 have hne : K1 ≠ K2 := by omega
 clear hw1 hw2 hK1 hK2 hsz1
 go_enter Tryz.func154, Tryz.ntmps154
 go_upto_region 1 with (fail)
 rw [← HW1.out, ← HK1.out, ← HK2.out, ← HW2.out]
 have n0 := D1.out.cell 0
 have n1 := D1.out.cell 1
 go_wp2_with fail
 refine (dright_ok (n := 4) (c := c) (A := some ⟨b, o, none⟩) (at_ := 2) (by omega) (by omega) _).mono ?_; rintro e w3 ⟨rfl, b3⟩
 clear n0 n1
 replace D1 := hid (D1.out.on b3)
 replace D2 := hid (D2.out.on b3)
 replace HB := hid (Bl.call HB.out b3)
 replace Y : Hid (w3.cell? ⟨b, o + 2, none⟩ = some (.int .u64 9)) := hid (cell_later HB.out Y.out)
 clear b3
 have n0 := D1.out.cell 0
 have n1 := D1.out.cell 1
 have y := Y.out
 go_wp2_with fail
 go_loopw [5] (fun iv wr => iv = .int .i64 2 ∧ wr = w3) (fun _ _ => 0)
 case atStart => exact ⟨rfl, rfl⟩
 case round =>
  obtain ⟨rfl, rfl⟩ := hrel
  have q1 : bits .and .u64 9 2305843009213693951 = 9 := by decide
  have q2 : decide ((9 : Int) < 2305843009213693951) = true := by decide
  go_upto_region 8 with (fail)
  have q3 : IntKind.i64.wrap 3 = 3 := by decide
  have p0 := D2.out.cell 0
  have p1 := D2.out.cell 1
  have f0 := D2.out.frozen 0
  have f1 := D2.out.frozen 1
  go_region
  obtain ⟨w9, hw9⟩ : ∃ W, W = ((wr.setCell ⟨K2, 0, none⟩ (.slice (some ⟨b, o, none⟩) 4 c)).setCell ⟨K2, 1, none⟩ (.int .i64 3)).drew := ⟨_, rfl⟩
  have D9 : Hid (Blk w9 K2 82 [.slice (some ⟨b, o, none⟩) 4 c, .int .i64 3]) := hid (by rw [hw9]; exact (D2.out.put 0 _).put 1 _)
  have HB9 : Hid (Below w.heap.size w w9) := hid (by rw [hw9]; exact Bl.qt ((HB.out.setCell (p := ⟨K2, 0, none⟩) LO2.out _).setCell (p := ⟨K2, 1, none⟩) LO2.out _) (qt_drew _))
  clear p0 p1 f0 f1 n0 n1
  have p0 := D9.out.cell 0
  have p1 := D9.out.cell 1
  rw [← hw9]
  clear hw9
  go_wp2
  exact bodyPost_ret (v := .tuple #[.int .u64 9, .agg #[.slice (some ⟨b, o, none⟩) 4 c, .int .i64 3], .int .i64 0]) (by simp [results, Tryz.results154, go_sem, p0, p1]) rfl ⟨rfl, HB9.out⟩
set_option maxHeartbeats 4000000 in
set_option maxRecDepth 100000 in
theorem dbelow_3 {A : Option Addr} {c : Nat} {w : World} (hs : Sl w w.heap.size 1 (.slice A 4 c) 4 (us [7, 1, 9, 2])) : Calls Tryz.prog 154 #[.agg #[.slice A 4 c, .int .i64 3]] w fun e w' => e = .returned (.tuple #[.int .u64 2, .agg #[.slice A 4 c, .int .i64 4], .int .i64 0]) ∧ Below w.heap.size w w' := by
 obtain ⟨_, _, he, hnc, hcm, _, hx⟩ := id hs
 injection he with he1 he2 he3
 subst he1 he3
 obtain ⟨b, o, rfl, hb, hcell⟩ := hx (by omega)
 have y : w.cell? ⟨b, o + 3, none⟩ = some (.int .u64 2) := hcell 3 (.int .u64 2) (by rfl)
 have Y := hid y
 clear hx hcell y hs
 obtain ⟨w1, hw1⟩ : ∃ W, W = w.alloc (.cells #[.slice (some ⟨b, o, none⟩) 4 c, .int .i64 3] 82) := ⟨_, rfl⟩
 obtain ⟨w2, hw2⟩ : ∃ W, W = w1.alloc (.cells #[.slice none 0 0, .int .i64 0] 82) := ⟨_, rfl⟩
 obtain ⟨K1, hK1⟩ : ∃ K, K = w.heap.size := ⟨_, rfl⟩
 obtain ⟨K2, hK2⟩ : ∃ K, K = K1 + 1 := ⟨_, rfl⟩
 have hsz1 : w1.heap.size = K1 + 1 := by rw [hw1, hK1]; simp
 have D1 : Hid (Blk w2 K1 82 [.slice (some ⟨b, o, none⟩) 4 c, .int .i64 3]) := hid (by rw [hw2, hw1, hK1]; exact (Blk.new _ _ _).alloc _)
 have D2 : Hid (Blk w2 K2 82 [.slice none 0 0, .int .i64 0]) := hid (by rw [hw2, hK2, ← hsz1]; exact Blk.new _ _ _)
 have HB : Hid (Below w.heap.size w w2) := hid (by rw [hw2, hw1]; exact Bl.new (bel_new _ _) _)
 have HW1 := hid hw1
 have HW2 := hid hw2
 have HK1 := hid hK1
 have HK2 := hid hK2
 have LO2 : Hid (w.heap.size ≤ K2) := hid (by omega)
 have hne : K1 ≠ K2 := by omega
 clear hw1 hw2 hK1 hK2 hsz1
 go_enter Tryz.func154, Tryz.ntmps154
 go_upto_region 1 with (fail)
 rw [← HW1.out, ← HK1.out, ← HK2.out, ← HW2.out]
 have n0 := D1.out.cell 0
 have n1 := D1.out.cell 1
 go_wp2_with fail
 refine (dright_ok (n := 4) (c := c) (A := some ⟨b, o, none⟩) (at_ := 3) (by omega) (by omega) _).mono ?_; rintro e w3 ⟨rfl, b3⟩
 clear n0 n1
 replace D1 := hid (D1.out.on b3)
 replace D2 := hid (D2.out.on b3)
 replace HB := hid (Bl.call HB.out b3)
 replace Y : Hid (w3.cell? ⟨b, o + 3, none⟩ = some (.int .u64 2)) := hid (cell_later HB.out Y.out)
 clear b3
 have n0 := D1.out.cell 0
 have n1 := D1.out.cell 1
 have y := Y.out
 go_wp2_with fail
 go_loopw [5] (fun iv wr => iv = .int .i64 3 ∧ wr = w3) (fun _ _ => 0)
 case atStart => exact ⟨rfl, rfl⟩
 case round =>
  obtain ⟨rfl, rfl⟩ := hrel
  have q1 : bits .and .u64 2 2305843009213693951 = 2 := by decide
  have q2 : decide ((2 : Int) < 2305843009213693951) = true := by decide
  go_upto_region 8 with (fail)
  have q3 : IntKind.i64.wrap 4 = 4 := by decide
  have p0 := D2.out.cell 0
  have p1 := D2.out.cell 1
  have f0 := D2.out.frozen 0
  have f1 := D2.out.frozen 1
  go_region
  obtain ⟨w9, hw9⟩ : ∃ W, W = ((wr.setCell ⟨K2, 0, none⟩ (.slice (some ⟨b, o, none⟩) 4 c)).setCell ⟨K2, 1, none⟩ (.int .i64 4)).drew := ⟨_, rfl⟩
  have D9 : Hid (Blk w9 K2 82 [.slice (some ⟨b, o, none⟩) 4 c, .int .i64 4]) := hid (by rw [hw9]; exact (D2.out.put 0 _).put 1 _)
  have HB9 : Hid (Below w.heap.size w w9) := hid (by rw [hw9]; exact Bl.qt ((HB.out.setCell (p := ⟨K2, 0, none⟩) LO2.out _).setCell (p := ⟨K2, 1, none⟩) LO2.out _) (qt_drew _))
  clear p0 p1 f0 f1 n0 n1
  have p0 := D9.out.cell 0
  have p1 := D9.out.cell 1
  rw [← hw9]
  clear hw9
  go_wp2
  exact bodyPost_ret (v := .tuple #[.int .u64 2, .agg #[.slice (some ⟨b, o, none⟩) 4 c, .int .i64 4], .int .i64 0]) (by simp [results, Tryz.results154, go_sem, p0, p1]) rfl ⟨rfl, HB9.out⟩
def hc3 (i : Nat) : List Value := if i = 0 then [.int .u64 0, .int .u64 0, .int .u64 0, .int .u64 0] else if i = 1 then [.int .u64 7, .int .u64 1, .int .u64 0, .int .u64 0] else [.int .u64 7, .int .u64 1, .int .u64 9, .int .u64 2]
theorem run_make_h2 (w : World) :
  (Instr.makeSlice 24 (.int .i64 2) (.int .i64 2)).run Tryz.prog w = .ok (.slice (some ⟨w.heap.size, 0, none⟩) 2 2) (w.alloc (.cells #[.int .u64 0, .int .u64 0, .int .u64 0, .int .u64 0] 42)) := by
 obtain ⟨hu, ⟨i, hi, hz, hsz, hby⟩, hzs, h0, h0b⟩ := Thsh
 have hr := run_make (P := Tryz.prog) w 24 42 i (.agg #[.int .u64 0, .int .u64 0]) hu hi hz .i64 .i64 2 2 (by omega) (by omega) (by rw [hby]; omega) (by omega)
 rw [hr, hsz]
 have e : madeCells (Value.agg #[Value.int IntKind.u64 0, Value.int IntKind.u64 0]).cells (Int.toNat 2 * 2) = #[.int .u64 0, .int .u64 0, .int .u64 0, .int .u64 0] := by
  apply Array.ext'
  simp [madeCells]
  rfl
 rw [e]
 rfl
set_option maxHeartbeats 16000000 in
set_option maxRecDepth 100000 in
theorem dhashes_ok {A : Option Addr} {c : Nat} {w : World} (hs : Sl w w.heap.size 1 (.slice A 4 c) 4 (us [7, 1, 9, 2])) : Calls Tryz.prog 122 #[.agg #[.slice A 4 c, .int .i64 0], .int .i64 2] w fun e w' => ∃ K, e = .returned (.tuple #[.slice (some ⟨K, 0, none⟩) 2 2, .agg #[.slice A 4 c, .int .i64 4], .int .i64 0]) ∧ w.heap.size ≤ K ∧ Sl w' w'.heap.size 2 (.slice (some ⟨K, 0, none⟩) 2 2) 2 (hcs [(7, 1), (9, 2)]) ∧ Below w.heap.size w w' := by
 have SH0 := hid hs
 obtain ⟨w1, hw1⟩ : ∃ W, W = w.alloc (.cells #[.slice A 4 c, .int .i64 0] 82) := ⟨_, rfl⟩
 obtain ⟨w2, hw2⟩ : ∃ W, W = w1.alloc (.cells #[.slice none 0 0, .int .i64 0] 82) := ⟨_, rfl⟩
 obtain ⟨K1, hK1⟩ : ∃ K, K = w.heap.size := ⟨_, rfl⟩
 obtain ⟨K5, hK5⟩ : ∃ K, K = K1 + 1 := ⟨_, rfl⟩
 have hsz1 : w1.heap.size = K1 + 1 := by rw [hw1, hK1]; simp
 have D1 : Hid (Blk w2 K1 82 [.slice A 4 c, .int .i64 0]) := hid (by rw [hw2, hw1, hK1]; exact (Blk.new _ _ _).alloc _)
 have D5 : Hid (Blk w2 K5 82 [.slice none 0 0, .int .i64 0]) := hid (by rw [hw2, hK5, ← hsz1]; exact Blk.new _ _ _)
 have HB : Hid (Below w.heap.size w w2) := hid (by rw [hw2, hw1]; exact Bl.new (bel_new _ _) _)
 have HW1 := hid hw1
 have HW2 := hid hw2
 have HK1 := hid hK1
 have HK5 := hid hK5
 have LO5 : Hid (w.heap.size ≤ K5) := hid (by omega)
 clear hw1 hw2 hK1 hK5 hsz1 hs
 have hmk := fun w => run_make_h2 w
 go_enter Tryz.func122, Tryz.ntmps122
 go_upto_region 1 with (fail)
 rw [← HW1.out, ← HK1.out, ← HK5.out, ← HW2.out]
 have n0 := D1.out.cell 0
 have n1 := D1.out.cell 1
 go_wp2_with fail
 refine (dright_ok (n := 4) (c := c) (A := A) (at_ := 0) (by omega) (by omega) _).mono ?_; rintro e w3 ⟨rfl, b3⟩
 clear n0 n1
 replace D1 := hid (D1.out.on b3)
 replace D5 := hid (D5.out.on b3)
 replace HB := hid (Bl.call HB.out b3)
 clear b3
 obtain ⟨w4, hw4⟩ : ∃ W, W = w3.alloc (.cells #[.int .u64 0, .int .u64 0, .int .u64 0, .int .u64 0] 42) := ⟨_, rfl⟩
 obtain ⟨KH, hKH⟩ : ∃ K, K = w3.heap.size := ⟨_, rfl⟩
 have bz := bel_new w3 (.cells #[.int .u64 0, .int .u64 0, .int .u64 0, .int .u64 0] 42)
 rw [← hw4] at bz
 have DH : Hid (Blk w4 KH 42 [.int .u64 0, .int .u64 0, .int .u64 0, .int .u64 0]) := hid (by rw [hw4, hKH]; exact Blk.new _ _ _)
 have N0 : Hid (K1 < KH ∧ K5 < KH) := hid (by rw [hKH]; exact ⟨D1.out.lt, D5.out.lt⟩)
 have LOH : Hid (w.heap.size ≤ KH) := hid (by rw [hKH]; exact HB.out.size)
 replace D1 := hid (D1.out.on bz)
 replace D5 := hid (D5.out.on bz)
 replace HB := hid (Bl.call HB.out bz)
 have n0 := D1.out.cell 0
 have n1 := D1.out.cell 1
 have HW4 := hid hw4
 have HKH := hid hKH
 clear bz hw4 hKH
 have hmk3 := hmk w3
 rw [← HW4.out, ← HKH.out] at hmk3
 clear hmk
 go_upto_region 5 with (fail)
 obtain ⟨w5, hw5⟩ : ∃ W, W = w4.alloc (.cells #[.slice A 4 c, .int .i64 0] 82) := ⟨_, rfl⟩
 obtain ⟨K8, hK8⟩ : ∃ K, K = w4.heap.size := ⟨_, rfl⟩
 have bz := bel_new w4 (.cells #[.slice A 4 c, .int .i64 0] 82)
 rw [← hw5] at bz
 have D8 : Hid (Blk w5 K8 82 [.slice A 4 c, .int .i64 0]) := hid (by rw [hw5, hK8]; exact Blk.new _ _ _)
 have LO8 : Hid (w.heap.size ≤ K8) := hid (by rw [hK8]; exact HB.out.size)
 have N8 : Hid (KH ≠ K8 ∧ K1 ≠ K8 ∧ K5 ≠ K8 ∧ K1 ≠ KH ∧ K5 ≠ KH) := hid (by have h1 := DH.out.lt; have h2 := D1.out.lt; have h3 := D5.out.lt; have h4 := N0.out; omega)
 replace D1 := hid (D1.out.on bz)
 replace D5 := hid (D5.out.on bz)
 replace DH := hid (DH.out.on bz)
 replace HB := hid (Bl.call HB.out bz)
 rw [← hw5, ← hK8]
 clear bz hw5 hK8 n0 n1 hmk3
 go_wp2_with fail
 go_loopw [32] (fun iv wr => ∃ i : Nat, iv = .int .i64 (i : Int) ∧ i ≤ 2 ∧ Hid (Blk wr KH 42 (hc3 i)) ∧ Hid (Blk wr K8 82 [.slice A 4 c, .int .i64 ((2 * i : Nat) : Int)]) ∧ Hid (Blk wr K5 82 [.slice none 0 0, .int .i64 0]) ∧ Hid (Below w.heap.size w wr)) (fun iv _ => 2 - (intOf iv).toNat)
 case atStart => exact ⟨0, rfl, by omega, DH, D8, D5, HB⟩
 case round =>
  clear DH D8 D5 HB D1
  obtain ⟨i, rfl, hi, DH, D8, D5, HB⟩ := hrel
  by_cases h0 : i = 0
  case pos =>
   subst h0
   have DH' : Hid (Blk wr KH 42 [.int .u64 0, .int .u64 0, .int .u64 0, .int .u64 0]) := DH
   have D8' : Hid (Blk wr K8 82 [.slice A 4 c, .int .i64 0]) := D8
   clear DH D8
   have n0 := D8'.out.cell 0
   have n1 := D8'.out.cell 1
   go_wp2_with fail
   refine (dbelow_0 (SH0.out.call HB.out)).mono ?_; rintro e w6 ⟨rfl, b6⟩
   clear n0 n1
   replace DH' := hid (DH'.out.on b6)
   replace D8' := hid (D8'.out.on b6)
   replace D5 := hid (D5.out.on b6)
   replace HB := hid (Bl.call HB.out b6)
   clear b6
   go_upto_region 9 with (fail)
   obtain ⟨w7, hw7⟩ : ∃ W, W = w6.alloc (.cells #[.slice A 4 c, .int .i64 1] 82) := ⟨_, rfl⟩
   obtain ⟨K11, hK11⟩ : ∃ K, K = w6.heap.size := ⟨_, rfl⟩
   have b7 := bel_new w6 (.cells #[.slice A 4 c, .int .i64 1] 82)
   rw [← hw7] at b7
   have D11 : Hid (Blk w7 K11 82 [.slice A 4 c, .int .i64 1]) := hid (by rw [hw7, hK11]; exact Blk.new _ _ _)
   replace DH' := hid (DH'.out.on b7)
   replace D8' := hid (D8'.out.on b7)
   replace D5 := hid (D5.out.on b7)
   replace HB := hid (Bl.call HB.out b7)
   rw [← hw7, ← hK11]
   clear b7 hw7 hK11
   have n0 := D11.out.cell 0
   have n1 := D11.out.cell 1
   go_wp2_with fail
   refine (dbelow_1 (SH0.out.call HB.out)).mono ?_; rintro e w8 ⟨rfl, b8⟩
   clear n0 n1
   replace DH' := hid (DH'.out.on b8)
   replace D8' := hid (D8'.out.on b8)
   replace D5 := hid (D5.out.on b8)
   replace HB := hid (Bl.call HB.out b8)
   replace D11 := hid (D11.out.on b8)
   clear b8
   go_upto_region 12 with (fail)
   obtain ⟨w9, hw9⟩ : ∃ W, W = w8.alloc (.cells #[.slice A 4 c, .int .i64 2] 82) := ⟨_, rfl⟩
   obtain ⟨K14, hK14⟩ : ∃ K, K = w8.heap.size := ⟨_, rfl⟩
   have b9 := bel_new w8 (.cells #[.slice A 4 c, .int .i64 2] 82)
   rw [← hw9] at b9
   have D14 : Hid (Blk w9 K14 82 [.slice A 4 c, .int .i64 2]) := hid (by rw [hw9, hK14]; exact Blk.new _ _ _)
   have N14 : Hid (KH ≠ K14 ∧ K8 ≠ K14 ∧ K5 ≠ K14) := hid (by have h1 := DH'.out.lt; have h2 := D8'.out.lt; have h3 := D5.out.lt; omega)
   replace DH' := hid (DH'.out.on b9)
   replace D8' := hid (D8'.out.on b9)
   replace D5 := hid (D5.out.on b9)
   replace HB := hid (Bl.call HB.out b9)
   rw [← hw9, ← hK14]
   clear b9 hw9 hK14
   have n0 := D14.out.cell 0
   have n1 := D14.out.cell 1
   have p0 := DH'.out.cell 0
   have p1 := DH'.out.cell 1
   have p2 := DH'.out.cell 2
   have p3 := DH'.out.cell 3
   have f0 := DH'.out.frozen 0
   have f1 := DH'.out.frozen 1
   have f2 := DH'.out.frozen 2
   have f3 := DH'.out.frozen 3
   have r0 := D8'.out.cell 0
   have r1 := D8'.out.cell 1
   have s0 := D8'.out.frozen 0
   have s1 := D8'.out.frozen 1
   obtain ⟨wA, hwA⟩ : ∃ W, W = ((w9.setCell ⟨KH, 0, none⟩ (.int .u64 7)).setCell ⟨KH, 1, none⟩ (.int .u64 1)) := ⟨_, rfl⟩
   have DHA : Hid (Blk wA KH 42 [.int .u64 7, .int .u64 1, .int .u64 0, .int .u64 0]) := hid (by rw [hwA]; exact (DH'.out.put 0 _).put 1 _)
   have D8A : Hid (Blk wA K8 82 [.slice A 4 c, .int .i64 0]) := hid (by rw [hwA]; exact (D8'.out.far N8.out.1.symm _).far N8.out.1.symm _)
   have D5A : Hid (Blk wA K5 82 [.slice none 0 0, .int .i64 0]) := hid (by rw [hwA]; exact (D5.out.far N8.out.2.2.2.2 _).far N8.out.2.2.2.2 _)
   have D14A : Hid (Blk wA K14 82 [.slice A 4 c, .int .i64 2]) := hid (by rw [hwA]; exact (D14.out.far N14.out.1.symm _).far N14.out.1.symm _)
   have HBA : Hid (Below w.heap.size w wA) := hid (by rw [hwA]; exact (HB.out.setCell (p := ⟨KH, _, none⟩) LOH.out _).setCell (p := ⟨KH, _, none⟩) LOH.out _)
   have HWA := hid hwA
   clear hwA
   have q0 := D14A.out.cell 0
   have q1 := D14A.out.cell 1
   have u0 := D8A.out.cell 0
   have u1 := D8A.out.cell 1
   have v0 := D8A.out.frozen 0
   have v1 := D8A.out.frozen 1
   obtain ⟨wB, hwB⟩ : ∃ W, W = ((wA.setCell ⟨K8, 0, none⟩ (.slice A 4 c)).setCell ⟨K8, 1, none⟩ (.int .i64 2)) := ⟨_, rfl⟩
   have DHB : Hid (Blk wB KH 42 (hc3 1)) := hid (by rw [hwB]; exact (DHA.out.far N8.out.1 _).far N8.out.1 _)
   have D8B : Hid (Blk wB K8 82 [.slice A 4 c, .int .i64 ((2 * 1 : Nat) : Int)]) := hid (by rw [hwB]; exact (D8A.out.put 0 _).put 1 _)
   have D5B : Hid (Blk wB K5 82 [.slice none 0 0, .int .i64 0]) := hid (by rw [hwB]; exact (D5A.out.far N8.out.2.2.1 _).far N8.out.2.2.1 _)
   have HBB : Hid (Below w.heap.size w wB) := hid (by rw [hwB]; exact (HBA.out.setCell (p := ⟨K8, _, none⟩) LO8.out _).setCell (p := ⟨K8, _, none⟩) LO8.out _)
   have HWB := hid hwB
   clear hwB
   go_upto_region 15 with (fail)
   rw [← HWA.out]
   clear n0 n1 p0 p1 p2 p3 f0 f1 f2 f3 r0 r1 s0 s1
   go_wp2_with fail
   rw [← HWB.out]
   go_roundw
   case rel => exact ⟨1, rfl, by omega, DHB, D8B, D5B, HBB⟩
   case measure => simp [intOf]
  case neg =>
   by_cases h1 : i = 1
   case pos =>
    subst h1
    have DH' : Hid (Blk wr KH 42 [.int .u64 7, .int .u64 1, .int .u64 0, .int .u64 0]) := DH
    have D8' : Hid (Blk wr K8 82 [.slice A 4 c, .int .i64 2]) := D8
    clear DH D8
    have n0 := D8'.out.cell 0
    have n1 := D8'.out.cell 1
    go_wp2_with fail
    refine (dbelow_2 (SH0.out.call HB.out)).mono ?_; rintro e w6 ⟨rfl, b6⟩
    clear n0 n1
    replace DH' := hid (DH'.out.on b6)
    replace D8' := hid (D8'.out.on b6)
    replace D5 := hid (D5.out.on b6)
    replace HB := hid (Bl.call HB.out b6)
    clear b6
    go_upto_region 9 with (fail)
    obtain ⟨w7, hw7⟩ : ∃ W, W = w6.alloc (.cells #[.slice A 4 c, .int .i64 3] 82) := ⟨_, rfl⟩
    obtain ⟨K11, hK11⟩ : ∃ K, K = w6.heap.size := ⟨_, rfl⟩
    have b7 := bel_new w6 (.cells #[.slice A 4 c, .int .i64 3] 82)
    rw [← hw7] at b7
    have D11 : Hid (Blk w7 K11 82 [.slice A 4 c, .int .i64 3]) := hid (by rw [hw7, hK11]; exact Blk.new _ _ _)
    replace DH' := hid (DH'.out.on b7)
    replace D8' := hid (D8'.out.on b7)
    replace D5 := hid (D5.out.on b7)
    replace HB := hid (Bl.call HB.out b7)
    rw [← hw7, ← hK11]
    clear b7 hw7 hK11
    have n0 := D11.out.cell 0
    have n1 := D11.out.cell 1
    go_wp2_with fail
    refine (dbelow_3 (SH0.out.call HB.out)).mono ?_; rintro e w8 ⟨rfl, b8⟩
    clear n0 n1
    replace DH' := hid (DH'.out.on b8)
    replace D8' := hid (D8'.out.on b8)
    replace D5 := hid (D5.out.on b8)
    replace HB := hid (Bl.call HB.out b8)
    replace D11 := hid (D11.out.on b8)
    clear b8
    go_upto_region 12 with (fail)
    obtain ⟨w9, hw9⟩ : ∃ W, W = w8.alloc (.cells #[.slice A 4 c, .int .i64 4] 82) := ⟨_, rfl⟩
    obtain ⟨K14, hK14⟩ : ∃ K, K = w8.heap.size := ⟨_, rfl⟩
    have b9 := bel_new w8 (.cells #[.slice A 4 c, .int .i64 4] 82)
    rw [← hw9] at b9
    have D14 : Hid (Blk w9 K14 82 [.slice A 4 c, .int .i64 4]) := hid (by rw [hw9, hK14]; exact Blk.new _ _ _)
    have N14 : Hid (KH ≠ K14 ∧ K8 ≠ K14 ∧ K5 ≠ K14) := hid (by have h1 := DH'.out.lt; have h2 := D8'.out.lt; have h3 := D5.out.lt; omega)
    replace DH' := hid (DH'.out.on b9)
    replace D8' := hid (D8'.out.on b9)
    replace D5 := hid (D5.out.on b9)
    replace HB := hid (Bl.call HB.out b9)
    rw [← hw9, ← hK14]
    clear b9 hw9 hK14
    have n0 := D14.out.cell 0
    have n1 := D14.out.cell 1
    have p0 := DH'.out.cell 0
    have p1 := DH'.out.cell 1
    have p2 := DH'.out.cell 2
    have p3 := DH'.out.cell 3
    have f0 := DH'.out.frozen 0
    have f1 := DH'.out.frozen 1
    have f2 := DH'.out.frozen 2
    have f3 := DH'.out.frozen 3
    have r0 := D8'.out.cell 0
    have r1 := D8'.out.cell 1
    have s0 := D8'.out.frozen 0
    have s1 := D8'.out.frozen 1
    obtain ⟨wA, hwA⟩ : ∃ W, W = ((w9.setCell ⟨KH, 2, none⟩ (.int .u64 9)).setCell ⟨KH, 3, none⟩ (.int .u64 2)) := ⟨_, rfl⟩
    have DHA : Hid (Blk wA KH 42 [.int .u64 7, .int .u64 1, .int .u64 9, .int .u64 2]) := hid (by rw [hwA]; exact (DH'.out.put 2 _).put 3 _)
    have D8A : Hid (Blk wA K8 82 [.slice A 4 c, .int .i64 2]) := hid (by rw [hwA]; exact (D8'.out.far N8.out.1.symm _).far N8.out.1.symm _)
    have D5A : Hid (Blk wA K5 82 [.slice none 0 0, .int .i64 0]) := hid (by rw [hwA]; exact (D5.out.far N8.out.2.2.2.2 _).far N8.out.2.2.2.2 _)
    have D14A : Hid (Blk wA K14 82 [.slice A 4 c, .int .i64 4]) := hid (by rw [hwA]; exact (D14.out.far N14.out.1.symm _).far N14.out.1.symm _)
    have HBA : Hid (Below w.heap.size w wA) := hid (by rw [hwA]; exact (HB.out.setCell (p := ⟨KH, _, none⟩) LOH.out _).setCell (p := ⟨KH, _, none⟩) LOH.out _)
    have HWA := hid hwA
    clear hwA
    have q0 := D14A.out.cell 0
    have q1 := D14A.out.cell 1
    have u0 := D8A.out.cell 0
    have u1 := D8A.out.cell 1
    have v0 := D8A.out.frozen 0
    have v1 := D8A.out.frozen 1
    obtain ⟨wB, hwB⟩ : ∃ W, W = ((wA.setCell ⟨K8, 0, none⟩ (.slice A 4 c)).setCell ⟨K8, 1, none⟩ (.int .i64 4)) := ⟨_, rfl⟩
    have DHB : Hid (Blk wB KH 42 (hc3 2)) := hid (by rw [hwB]; exact (DHA.out.far N8.out.1 _).far N8.out.1 _)
    have D8B : Hid (Blk wB K8 82 [.slice A 4 c, .int .i64 ((2 * 2 : Nat) : Int)]) := hid (by rw [hwB]; exact (D8A.out.put 0 _).put 1 _)
    have D5B : Hid (Blk wB K5 82 [.slice none 0 0, .int .i64 0]) := hid (by rw [hwB]; exact (D5A.out.far N8.out.2.2.1 _).far N8.out.2.2.1 _)
    have HBB : Hid (Below w.heap.size w wB) := hid (by rw [hwB]; exact (HBA.out.setCell (p := ⟨K8, _, none⟩) LO8.out _).setCell (p := ⟨K8, _, none⟩) LO8.out _)
    have HWB := hid hwB
    clear hwB
    go_upto_region 15 with (fail)
    rw [← HWA.out]
    clear n0 n1 p0 p1 p2 p3 f0 f1 f2 f3 r0 r1 s0 s1
    go_wp2_with fail
    rw [← HWB.out]
    go_roundw
    case rel => exact ⟨2, rfl, by omega, DHB, D8B, D5B, HBB⟩
    case measure => simp [intOf]
   case neg =>
    obtain rfl : i = 2 := by omega
    have DH' : Hid (Blk wr KH 42 [.int .u64 7, .int .u64 1, .int .u64 9, .int .u64 2]) := DH
    have D8' : Hid (Blk wr K8 82 [.slice A 4 c, .int .i64 4]) := D8
    clear DH D8
    go_upto_region 17 with (fail)
    have n0 := D8'.out.cell 0
    have n1 := D8'.out.cell 1
    have p0 := D5.out.cell 0
    have p1 := D5.out.cell 1
    have f0 := D5.out.frozen 0
    have f1 := D5.out.frozen 1
    go_region
    obtain ⟨w9, hw9⟩ : ∃ W, W = ((wr.setCell ⟨K5, 0, none⟩ (.slice A 4 c)).setCell ⟨K5, 1, none⟩ (.int .i64 4)).drew := ⟨_, rfl⟩
    have D9 : Hid (Blk w9 K5 82 [.slice A 4 c, .int .i64 4]) := hid (by rw [hw9]; exact (D5.out.put 0 _).put 1 _)
    have DH9 : Hid (Blk w9 KH 42 (hcs [(7, 1), (9, 2)])) := hid (by rw [hw9]; exact (DH'.out.far N8.out.2.2.2.2.symm _).far N8.out.2.2.2.2.symm _)
    have HB9 : Hid (Below w.heap.size w w9) := hid (by rw [hw9]; exact Bl.qt ((HB.out.setCell (p := ⟨K5, 0, none⟩) LO5.out _).setCell (p := ⟨K5, 1, none⟩) LO5.out _) (qt_drew _))
    clear p0 p1 f0 f1 n0 n1
    have p0 := D9.out.cell 0
    have p1 := D9.out.cell 1
    rw [← hw9]
    clear hw9
    go_wp2
    exact bodyPost_ret (v := .tuple #[.slice (some ⟨KH, 0, none⟩) 2 2, .agg #[.slice A 4 c, .int .i64 4], .int .i64 0]) (by simp [results, Tryz.results122, go_sem, p0, p1]) rfl ⟨KH, rfl, LOH.out, DH9.out.sl DH9.out.lt (Nat.le_refl _) (by unfold maxLen; omega) rfl, HB9.out⟩
def usedAt (ss : List (Bool × Int)) (x : Int) : Bool := (ss.getD x.toNat (false, 0)).1
def UsOk (es : List (Int × Int × Int)) (ss : List (Bool × Int)) (i : Nat) : Prop := ∀ j, (h : j < es.length) → j < i → usedAt ss es[j].1 = true ∧ usedAt ss es[j].2.1 = true
def SR (N L R : Int) (hs : List (Int × Int)) (es : List (Int × Int × Int)) (ss : List (Bool × Int)) : Prop :=
 GR N L R hs es ∧ Vt.Ok ss ∧ (ss.length : Int) = N ∧ UsOk es ss es.length
theorem us_next {es : List (Int × Int × Int)} {ss : List (Bool × Int)} {i : Nat} (hp : UsOk es ss i) (h1 : ∀ h : i < es.length, usedAt ss es[i].1 = true ∧ usedAt ss es[i].2.1 = true) : UsOk es ss (i + 1) := by
 intro j h hj
 rcases Nat.lt_or_ge j i with h3 | h3
 · exact hp j h h3
 ·
  have : j = i := by omega
  subst this; exact h1 h
theorem kd_yes' {l : List (Bool × Int)} (h : Vt.Ok l) : (kd l).isSome = true := by obtain ⟨d, h1, -⟩ := kd_ok h; rw [h1]; rfl
theorem kd_no' {l : List (Bool × Int)} (h : ¬ Vt.Ok l) : (kd l).isSome = false := by rw [kd_bad h]; rfl
def stV (N L R : Int) (vh ve vs : Value) : Value := .agg #[.int .i64 N, .int .i64 L, .int .i64 R, vh, ve, vs]
theorem used_nat (ss : List (Bool × Int)) {x : Nat} (h : x < ss.length) : usedAt ss (x : Int) = ss[x].1 := by simp [usedAt, List.getD, h]
set_option maxRecDepth 100000 in
set_option maxHeartbeats 16000000 in
theorem sr_any {N L R : Int} {vh ve vs : Value} {nh ne ns : Nat} {hs : List (Int × Int)} {es : List (Int × Int × Int)} {ss : List (Bool × Int)} {w : World} (h1 : Sl w w.heap.size 2 vh nh (hcz hs)) (h2 : Sl w w.heap.size 3 ve ne (eds es)) (h3 : Sl w w.heap.size 2 vs ns (sls ss)) (hn : ne ≤ 1000000)
  (b : Bool) (hb : SR N L R hs es ss ↔ b = true) :
  Calls Tryz.prog 113 #[stV N L R vh ve vs] w fun e w' => e = .returned (.bool b) ∧ Below w.heap.size w w' := by
 have hl2 : es.length = ne := by have := h2.len; rw [len_eds] at this; omega
 have hl3 : ss.length = ns := by have := h3.len; rw [len_sls] at this; omega
 have S1 := hid h1
 obtain ⟨A1, c1, rfl, -⟩ := h1
 have S2 := hid h2
 have S3 := hid h3
 obtain ⟨A2, c2, rfl, -, -, -, hx2⟩ := h2
 obtain ⟨A3, c3, rfl, hnc3, hcm3, -, hx3⟩ := h3
 have HB := hid hb
 have HL2 := hid hl2
 have HL3 := hid hl3
 have hm3 : ns ≤ 9223372036854775807 := by unfold maxLen at hcm3; omega
 have HX2 := hid hx2
 have HX3 := hid hx3
 clear hx2 hx3 hl2 hl3 hb hcm3 hnc3
 unfold stV
 obtain ⟨w1, hw1⟩ : ∃ W, W = w.alloc (.cells #[.int .i64 N, .int .i64 L, .int .i64 R, .slice A1 nh c1, .slice A2 ne c2, .slice A3 ns c3] 85) := ⟨_, rfl⟩
 obtain ⟨KS, hKS⟩ : ∃ K, K = w.heap.size := ⟨_, rfl⟩
 have b1 : Below w.heap.size w w1 := by rw [hw1]; exact bel_new _ _
 have HB1 := hid b1
 have DS : Hid (Blk w1 KS 85 [.int .i64 N, .int .i64 L, .int .i64 R, .slice A1 nh c1, .slice A2 ne c2, .slice A3 ns c3]) := hid (by rw [hw1, hKS]; exact Blk.new _ _ _)
 have T1 := hid (S1.out.call b1)
 have T2 := hid (S2.out.call b1)
 have T3 := hid (S3.out.call b1)
 have HW := hid hw1
 have HK := hid hKS
 have x0 := DS.out.cell 0
 have x1 := DS.out.cell 1
 have x2 := DS.out.cell 2
 have x3 := DS.out.cell 3
 have x4 := DS.out.cell 4
 clear hw1 hKS b1
 by_cases hg : GR N L R hs es
 case neg =>
  have HF : Hid (b = false) := hid (not_true HB.out (fun h => hg h.1))
  have HG : Hid (GR N L R hs es ↔ false = true) := hid (by simp only [hg]; simp)
  clear hg
  go_enter Tryz.func113, Tryz.ntmps113
  clear x0 x1 x2 x3 x4
  go_wp2_with fail
  rw [← HW.out, ← HK.out]
  refine (gr_any T1.out T2.out hn false HG.out).mono ?_; rintro e w2 ⟨rfl, b2⟩
  have HB2 := hid (Bl.call HB1.out b2)
  clear b2
  go_wp2
  go_ret
  exact ⟨by rw [HF.out]; rfl, HB2.out⟩
 case pos =>
 have HG := hid hg
 clear hg
 go_enter Tryz.func113, Tryz.ntmps113
 clear x0 x1 x2 x3 x4
 go_wp2_with fail
 rw [← HW.out, ← HK.out]
 refine (gr_any T1.out T2.out hn true ⟨fun _ => rfl, fun _ => HG.out⟩).mono ?_; rintro e w2 ⟨rfl, b2⟩
 have HB2 := hid (Bl.call HB1.out b2)
 have DS2 := hid (DS.out.below b2 DS.out.lt)
 have U3 := hid (T3.out.call b2)
 clear b2
 have x5 := DS2.out.cell 5
 by_cases hv : Vt.Ok ss
 case neg =>
  have HF : Hid (b = false) := hid (not_true HB.out (fun h => hv h.2.1))
  have HV : Hid ((kd ss).isSome = false) := hid (kd_no' hv)
  clear hv
  go_wp2_with fail
  refine (vright_is U3.out false HV.out).mono ?_; rintro e w3 ⟨rfl, b3⟩
  have HB3 := hid (Bl.call HB2.out b3)
  clear b3 x5
  go_wp2
  go_ret
  exact ⟨by rw [HF.out]; rfl, HB3.out⟩
 case pos =>
 have HVO := hid hv
 have HV : Hid ((kd ss).isSome = true) := hid (kd_yes' hv)
 clear hv
 go_wp2_with fail
 refine (vright_is U3.out true HV.out).mono ?_; rintro e w3 ⟨rfl, b3⟩
 have HB3 := hid (Bl.call HB2.out b3)
 have DS3 := hid (DS2.out.below b3 DS2.out.lt)
 clear b3 x5
 have x0 := DS3.out.cell 0
 have x4 := DS3.out.cell 4
 have x5 := DS3.out.cell 5
 by_cases hq : (ns : Int) = N
 case neg =>
  have HF : Hid (b = false) := hid (not_true HB.out (fun h => hq (by rw [← h.2.2.1, HL3.out])))
  have k2 : ((ns : Int) != N) = true := by simp [hq]
  clear hq
  go_wp2
  go_ret
  exact ⟨by rw [HF.out]; rfl, HB3.out⟩
 case pos =>
 have k2 : ((ns : Int) != N) = false := by simp [hq]
 have HNN : Hid ((ss.length : Int) = N) := hid (by rw [HL3.out]; exact hq)
 have HNS := hid hq
 clear hq
 go_wp2_with fail
 clear x0 x4 x5 k2
 go_loopw [29] (fun iv wr => ∃ i : Nat, i ≤ ne ∧ iv = .int .i64 (i : Int) ∧ Hid (UsOk es ss i) ∧ Hid (Below w3.heap.size w3 wr)) (fun iv _ => ne - (intOf iv).toNat)
 case atStart => exact ⟨0, Nat.zero_le _, rfl, hid (fun j _ h => absurd h (Nat.not_lt_zero _)), hid (Below.refl _ _)⟩
 case round =>
  obtain ⟨i, hi, rfl, HP, HBr⟩ := hrel
  have HB4 := hid (HB3.out.trans (HBr.out.mono HB3.out.size))
  by_cases hlt : i < ne
  case neg =>
   obtain rfl : i = ne := by omega
   have j0 : ¬ (i : Int) < (i : Int) := by omega
   have HF : Hid (b = true) := hid (HB.out.1 ⟨HG.out, HVO.out, HNN.out, by rw [HL2.out]; exact HP.out⟩)
   go_wp2
   go_ret
   exact ⟨by rw [HF.out]; rfl, HB4.out⟩
  case pos =>
   have j0 : (i : Int) < (ne : Int) := by omega
   have hil : i < es.length := by rw [HL2.out]; exact hlt
   obtain ⟨b6, o6, rfl, hb6, hc6⟩ := HX2.out (by omega)
   obtain ⟨p0, p1, p2⟩ := eds_cell hc6 hil
   have q0 := (HB4.out.cell (p := ⟨b6, o6 + i * 3, none⟩) hb6).trans p0
   have q1 := (HB4.out.cell (p := ⟨b6, o6 + i * 3 + 1, none⟩) hb6).trans p1
   have q2 := (HB4.out.cell (p := ⟨b6, o6 + i * 3 + 2, none⟩) hb6).trans p2
   have HNX := hid (fun h : usedAt ss es[i].1 = true ∧ usedAt ss es[i].2.1 = true => us_next HP.out (fun _ => h))
   have HNO := hid (fun h : ¬ (usedAt ss es[i].1 = true ∧ usedAt ss es[i].2.1 = true) => not_true HB.out (fun g => h (g.2.2.2 i hil hil)))
   have hok := (HG.out.2.2.2.1.2 i hil hil).1
   obtain ⟨e, he⟩ : ∃ e, e = es[i] := ⟨_, rfl⟩
   rw [← he] at q0 q1 q2 HNX HNO hok
   obtain ⟨x, y, t⟩ := e
   dsimp only at q0 q1 q2 HNX HNO
   obtain ⟨o1, o2, o3, -, -⟩ := hok
   dsimp only at o1 o2 o3
   have hns := HNS.out
   obtain ⟨x, rfl⟩ := Int.eq_ofNat_of_zero_le o1
   obtain ⟨y, rfl⟩ := Int.eq_ofNat_of_zero_le (show 0 ≤ y by omega)
   have hxl : x < ss.length := by rw [HL3.out]; omega
   have hyl : y < ss.length := by rw [HL3.out]; omega
   rw [used_nat ss hxl, used_nat ss hyl] at HNX HNO
   obtain ⟨b7, o7, rfl, hb7, hc7⟩ := HX3.out (by omega)
   have HBN := hid (Bl.new HB4.out (.cells #[.int .i64 (x : Int), .int .i64 (y : Int), .int .i64 t] 35))
   have HBM := hid (HBr.out.alloc HBr.out.size (.cells #[.int .i64 (x : Int), .int .i64 (y : Int), .int .i64 t] 35))
   have r0 := (HBN.out.cell (p := ⟨b7, o7 + x * 2, none⟩) hb7).trans (sls_cell hc7 hxl).1
   have r1 := (HBN.out.cell (p := ⟨b7, o7 + y * 2, none⟩) hb7).trans (sls_cell hc7 hyl).1
   have DS4 := hid ((DS3.out.below HBr.out DS3.out.lt).alloc (.cells #[.int .i64 (x : Int), .int .i64 (y : Int), .int .i64 t] 35))
   have x5 := DS4.out.cell 5
   have j1 : (x : Int) < (ns : Int) := by omega
   have j2 : (y : Int) < (ns : Int) := by omega
   have j3 : (0 : Int) ≤ (x : Int) := by omega
   have j4 : (0 : Int) ≤ (y : Int) := by omega
   clear he p0 p1 p2 hc6 hc7 hil o1 o2 o3 hns
   obtain ⟨u, hu⟩ : ∃ u, u = ss[x].1 := ⟨_, rfl⟩
   obtain ⟨u', hu'⟩ : ∃ u, u = ss[y].1 := ⟨_, rfl⟩
   rw [← hu] at r0 HNX HNO
   rw [← hu'] at r1 HNX HNO
   clear hu hu' hxl hyl
   cases u with
   | false =>
    have HF := hid (HNO.out (by simp))
    clear HNO HNX
    go_wp2
    go_ret
    exact ⟨by rw [HF.out]; rfl, HBN.out⟩
   | true =>
    cases u' with
    | false =>
     have HF := hid (HNO.out (by simp))
     clear HNO HNX
     go_wp2
     go_ret
     exact ⟨by rw [HF.out]; rfl, HBN.out⟩
    | true =>
     have HN := hid (HNX.out ⟨rfl, rfl⟩)
     clear HNO HNX
     go_wp2_with fail
     go_roundw
     case rel => exact ⟨i + 1, by omega, by go_num, HN, HBM⟩
     case measure => simp [intOf]; omega
theorem vnew_own {n : Nat} (h : 1 ≤ n ∧ n ≤ 1024) (w : World) : Calls Tryz.prog 123 #[.int .i64 (n : Int)] w fun e w' => ∃ K, e = .returned (.tuple #[.slice (some ⟨K, 0, none⟩) n n, .int .i64 0]) ∧ w.heap.size ≤ K ∧ Sl w' w'.heap.size 2 (.slice (some ⟨K, 0, none⟩) n n) n (sls (List.replicate n (false, 0))) ∧ Below w.heap.size w w' := by
 have H : Hid (1 ≤ (n : Int) ∧ (n : Int) ≤ 1024) := hid (by omega)
 have hmk := fun w => run_make_sls n (by omega) w
 have hsl : Sl (w.alloc (.cells (sls (List.replicate n (false, 0))).toArray 192)) (w.alloc (.cells (sls (List.replicate n (false, 0))).toArray 192)).heap.size 2 (.slice (some ⟨w.heap.size, 0, none⟩) n n) n (sls (List.replicate n (false, 0))) :=
  (Blk.new w 192 (sls (List.replicate n (false, 0)))).sl (by simp) (Nat.le_refl _) (by unfold maxLen; omega) (len_vnew n)
 have HS := hid hsl
 clear h hsl
 go_enter Tryz.func123, Tryz.ntmps123
 go_wp2_with fail
 refine (vsized_yes H.out _).mono ?_; rintro e w' ⟨rfl, rfl⟩
 go_wp2
 exact bodyPost_ret (v := .tuple #[.slice (some ⟨w.heap.size, 0, none⟩) n n, .int .i64 0]) (by simp [results, Tryz.results123, go_sem]) rfl ⟨_, rfl, Nat.le_refl _, HS.out, bel_new _ _⟩
def AddOwn (w : World) (n : Nat) (l : List (Bool × Int)) (j : Nat) (e : Ending) (w' : World) : Prop := ∃ K c, e = .returned (.tuple #[.slice (some ⟨K, 0, none⟩) n c, .int .i64 (j : Int), .int .i64 0]) ∧ w.heap.size ≤ K ∧ Sl w' w'.heap.size 2 (.slice (some ⟨K, 0, none⟩) n c) n (sls l) ∧ Below w.heap.size w w'
theorem vadd_own {v : Value} {n : Nat} {l : List (Bool × Int)} {k : Int} {j : Nat} {w : World} (hl : Sl w w.heap.size 2 v n (sls l)) (h : Vt.Ok l) (hk : Vt.fn l k = none) (hf : Vt.ff l = some j) :
  Calls Tryz.prog 143 #[v, .int .u64 k] w (AddOwn w n (l.set j (true, k)) j) := by
 have hll : l.length = n := by have := hl.len; rw [len_sls] at this; omega
 have HL := hid hl
 have HLen := hid (kd_len (l := l))
 obtain ⟨d, h1, h2⟩ := kd_ok h
 have hg := Vt.get_fn h2 h.2.2 k
 have HS : Hid ((Dc.get d k).isSome = false) := hid (by rw [hg, hk]; rfl)
 have HK := hid h1
 have HZ : Hid (ffZ l = (j : Int)) := hid (by unfold ffZ; rw [hf])
 obtain ⟨hjl, -⟩ := Vt.ff_some hf
 have hn2 : n ≤ 1024 := by have := h.2.1; omega
 have hjn : (j : Int) < (n : Int) := by omega
 have HJ := hid hjl
 clear hl h hk h1 h2 hg hf hll hjl
 go_enter Tryz.func143, Tryz.ntmps143
 go_wp2_with fail
 refine (keyed_any HL.out).mono ?_; rintro e w1 ⟨pt, rfl, i1, b1⟩
 rw [HK.out]
 have BB2 := hid (Bl.new b1 (.cells #[.pointer pt] 195))
 have I2 : Hid (IsD (w1.alloc (.cells #[.pointer pt] 195)) pt d) := hid (by rw [HK.out] at i1; exact i1.new _)
 have HLd : Hid (d.length ≤ 100000) := hid (by have := HLen.out; rw [HK.out] at this; exact this)
 clear i1 b1
 go_wp2_with fail
 refine (get_any (k := k) I2.out HLd.out).mono ?_; rintro e w2 ⟨rfl, b2⟩
 rw [HS.out]
 have BB3 := hid (Bl.call BB2.out b2)
 have HL3 := hid (HL.out.call BB3.out)
 clear b2
 go_wp2_with fail
 refine (vindex_is HL3.out _ HZ.out).mono ?_; rintro e w3 ⟨rfl, b3⟩
 have BB4 := hid (Bl.call BB3.out b3)
 have HL4 := hid (HL.out.call BB4.out)
 clear b3
 go_wp2_with fail
 refine (vclone_any _ n _ l _ HL4.out (Nat.le_refl _) (by omega)).mono ?_; rintro e w4 ⟨v4, rfl, o4, b4⟩
 obtain ⟨g, cap, rfl, hg1, hg2⟩ := own_form o4 (by omega)
 obtain ⟨c0, c1, f0, f1⟩ := own_cells o4 HJ.out
 have O5 := hid (own_slot o4 j true k)
 have B5 : Hid (Below w3.heap.size w3 ((w4.setCell ⟨g, j * 2, none⟩ (.bool true)).setCell ⟨g, j * 2 + 1, none⟩ (.int .u64 k))) := hid ((b4.setCell (p := ⟨g, j * 2, none⟩) hg1 _).setCell (p := ⟨g, j * 2 + 1, none⟩) hg1 _)
 have B6 := hid (Bl.call BB4.out B5.out)
 have GW : Hid (w.heap.size ≤ g) := hid (Nat.le_trans BB4.out.size hg1)
 clear o4 b4 hg1 hg2
 go_wp2
 exact bodyPost_ret (v := .tuple #[.slice (some ⟨g, 0, none⟩) n cap, .int .i64 (j : Int), .int .i64 0]) (by simp [results, Tryz.results143, go_sem]) rfl ⟨_, _, rfl, GW.out, Sl.of_own O5.out, B6.out⟩
/-! The state that awake goes through. -/
def hsA : List (Nat × Nat) := [(7, 1), (9, 2)]
def sA0 : List (Bool × Int) := [(false, 0), (false, 0), (false, 0)]
def sA1 : List (Bool × Int) := [(true, 4), (false, 0), (false, 0)]
def sA2 : List (Bool × Int) := [(true, 4), (true, 6), (false, 0)]
def sA3 : List (Bool × Int) := [(true, 4), (true, 6), (true, 8)]
def eA : List (Int × Int × Int) := [(0, 1, 1)]
theorem ok_kd {l : List (Bool × Int)} (h : (kd l).isSome = true) : Vt.Ok l := by
 refine Classical.byContradiction fun hn => ?_
 rw [kd_no' hn] at h; cases h
theorem okA0 : Vt.Ok sA0 := ok_kd (by decide +kernel)
theorem okA1 : Vt.Ok sA1 := ok_kd (by decide +kernel)
theorem okA2 : Vt.Ok sA2 := ok_kd (by decide +kernel)
theorem okA3 : Vt.Ok sA3 := ok_kd (by decide +kernel)
theorem gdA : Tp.Gd 3 2 [] := Tp.gd_nil (by omega)
theorem gpA0 : GP 3 2 1 hsA [] := ⟨by omega, by omega, by omega, by omega, by omega, by omega, rfl, by intro h hh; simp [hsA] at hh; rcases hh with rfl | rfl <;> decide, gdA, by decide⟩
theorem insA : Tp.insF 3 2 (Tp.Sof hsA 1 (lvl 3) 2) [] 1 0 = eA := by decide +kernel
theorem gpA1 : GP 3 2 1 hsA eA := by
 have h := (len_ins gpA0 (Tp.Sof_ok hsA 1 (lvl 3) 2) (by decide) 1 0).1
 rw [insA] at h
 exact h
theorem srA0 {ss : List (Bool × Int)} (h : Vt.Ok ss) (hl : ss.length = 3) : SR 3 2 1 (hz hsA) [] ss := ⟨gpA0.gr, h, by omega, fun j h => absurd h (Nat.not_lt_zero _)⟩
theorem srA1 : SR 3 2 1 (hz hsA) eA sA3 := ⟨gpA1.gr, okA3, rfl, by
 intro j h _
 have : j = 0 := by simp [eA] at h; exact h
 subst this
 exact ⟨rfl, rfl⟩⟩
structure SM (w : World) (v1 v2 v3 : Value) (es : List (Int × Int × Int)) (ss : List (Bool × Int)) : Prop where
  sh : Sl w w.heap.size 2 v1 2 (hcs hsA)
  se : Sl w w.heap.size 3 v2 es.length (eds es)
  ss : Sl w w.heap.size 2 v3 3 (sls ss)
theorem SM.call {w a : World} {v1 v2 v3 : Value} {es : List (Int × Int × Int)} {ss : List (Bool × Int)} (h : SM w v1 v2 v3 es ss) (hb : Below w.heap.size w a) : SM a v1 v2 v3 es ss := ⟨h.sh.call hb, h.se.call hb, h.ss.call hb⟩
theorem SM.cqt {w a : World} {v1 v2 v3 : Value} {es : List (Int × Int × Int)} {ss : List (Bool × Int)} (h : SM w v1 v2 v3 es ss) (hb : Qt w a) : SM a v1 v2 v3 es ss := h.call hb.bel
theorem SM.gm {w : World} {v1 v2 v3 : Value} {es : List (Int × Int × Int)} {ss : List (Bool × Int)} (h : SM w v1 v2 v3 es ss) : GM w v1 v2 hsA es := ⟨h.sh, h.se⟩
theorem aright {w : World} {v1 v2 v3 : Value} {es : List (Int × Int × Int)} {ss : List (Bool × Int)} (h : SM w v1 v2 v3 es ss) (hn : es.length ≤ 1000000) (hr : SR 3 2 1 (hz hsA) es ss) : Calls Tryz.prog 113 #[stV 3 2 1 v1 v2 v3] w fun e w' => e = .returned (.bool true) ∧ Below w.heap.size w w' :=
 sr_any (by rw [hcz_hz]; exact h.sh) h.se h.ss hn true ⟨fun _ => rfl, fun _ => hr⟩
theorem off_new {K K' n c : Nat} (h : K < K') : Off K (.slice (some ⟨K', 0, none⟩) n c) := by
 intro b o n c h1 _
 injection h1 with h1; injection h1 with h1; injection h1 with h1
 omega
theorem tnewA {vh : Value} {w : World} (h : Sl w w.heap.size 2 vh 2 (hcs hsA)) : Calls Tryz.prog 13 #[.agg #[.int .i64 3, .int .i64 2, .int .i64 1], vh] w fun e w' => ∃ A1 c1, e = .returned (.tuple #[.agg #[.int .i64 3, .int .i64 2, .int .i64 1, .slice A1 2 c1, .slice none 0 0], .int .i64 0]) ∧ w'.ownsRow w.heap.size 42 2 (.slice A1 2 c1) 2 (hcs hsA) ∧ Below w.heap.size w w' := by
 refine (tnew_is (N := 3) (L := 2) (R := 1) (hs := hsA) h (by decide) true ⟨fun _ => rfl, fun _ => gpA0.gr⟩).mono ?_
 intro e w' hp
 unfold NewPost at hp
 rw [if_pos rfl] at hp
 exact hp
theorem vnewA (w : World) : Calls Tryz.prog 123 #[.int .i64 3] w fun e w' => ∃ K, e = .returned (.tuple #[.slice (some ⟨K, 0, none⟩) 3 3, .int .i64 0]) ∧ w.heap.size ≤ K ∧ Sl w' w'.heap.size 2 (.slice (some ⟨K, 0, none⟩) 3 3) 3 (sls sA0) ∧ Below w.heap.size w w' := vnew_own (n := 3) (by omega) w
def INewPost (A : Option Addr) (c : Nat) (w : World) (e : Ending) (w' : World) : Prop := ∃ A1 c1 A3 c3, e = .returned (.tuple #[.agg #[.int .i64 3, .int .i64 2, .int .i64 1, .slice A1 2 c1, .slice none 0 0, .slice A3 3 c3], .agg #[.slice A 4 c, .int .i64 4], .int .i64 0]) ∧ SM w' (.slice A1 2 c1) (.slice none 0 0) (.slice A3 3 c3) [] sA0 ∧ (∀ K, K < w.heap.size → Off K (.slice A1 2 c1) ∧ Off K (.slice A3 3 c3)) ∧ Below w.heap.size w w'
set_option maxHeartbeats 16000000 in
set_option maxRecDepth 100000 in
theorem inew_ok {A : Option Addr} {c : Nat} {w : World} (hs : Sl w w.heap.size 1 (.slice A 4 c) 4 (us [7, 1, 9, 2])) : Calls Tryz.prog 91 #[.agg #[.int .i64 3, .int .i64 2, .int .i64 1], .agg #[.slice A 4 c, .int .i64 0]] w (INewPost A c w) := by
 have SW := hid hs
 clear hs
 obtain ⟨w1, hw1⟩ : ∃ W, W = w.alloc (.cells #[.int .i64 3, .int .i64 2, .int .i64 1] 23) := ⟨_, rfl⟩
 obtain ⟨K2, hK2⟩ : ∃ K, K = w.heap.size := ⟨_, rfl⟩
 obtain ⟨w2, hw2⟩ : ∃ W, W = w1.alloc (.cells #[.slice A 4 c, .int .i64 0] 82) := ⟨_, rfl⟩
 obtain ⟨K3, hK3⟩ : ∃ K, K = K2 + 1 := ⟨_, rfl⟩
 obtain ⟨w3, hw3⟩ : ∃ W, W = w2.alloc (.cells #[.int .i64 0, .int .i64 0, .int .i64 0, .slice none 0 0, .slice none 0 0, .slice none 0 0] 85) := ⟨_, rfl⟩
 obtain ⟨K4, hK4⟩ : ∃ K, K = K3 + 1 := ⟨_, rfl⟩
 obtain ⟨w4, hw4⟩ : ∃ W, W = w3.alloc (.cells #[.slice none 0 0, .int .i64 0] 82) := ⟨_, rfl⟩
 obtain ⟨K5, hK5⟩ : ∃ K, K = K4 + 1 := ⟨_, rfl⟩
 have zw1 : w1.heap.size = K2 + 1 := by rw [hw1, hK2]; simp
 have zw2 : w2.heap.size = K2 + 2 := by rw [hw2]; simp; exact zw1
 have zw3 : w3.heap.size = K2 + 3 := by rw [hw3]; simp; exact zw2
 have zw4 : w4.heap.size = K2 + 4 := by rw [hw4]; simp; exact zw3
 have D_K2 : Hid (Blk w4 K2 23 [.int .i64 3, .int .i64 2, .int .i64 1]) := hid (by rw [hK2]; rw [hw4, hw3, hw2, hw1]; exact (((Blk.new _ _ _).alloc _).alloc _).alloc _)
 have LO_K2 : Hid (w.heap.size ≤ K2) := hid (by omega)
 have D_K3 : Hid (Blk w4 K3 82 [.slice A 4 c, .int .i64 0]) := hid (by rw [show K3 = w1.heap.size by omega]; rw [hw4, hw3, hw2]; exact ((Blk.new _ _ _).alloc _).alloc _)
 have LO_K3 : Hid (w.heap.size ≤ K3) := hid (by omega)
 have D_K4 : Hid (Blk w4 K4 85 [.int .i64 0, .int .i64 0, .int .i64 0, .slice none 0 0, .slice none 0 0, .slice none 0 0]) := hid (by rw [show K4 = w2.heap.size by omega]; rw [hw4, hw3]; exact (Blk.new _ _ _).alloc _)
 have LO_K4 : Hid (w.heap.size ≤ K4) := hid (by omega)
 have D_K5 : Hid (Blk w4 K5 82 [.slice none 0 0, .int .i64 0]) := hid (by rw [show K5 = w3.heap.size by omega]; rw [hw4]; exact Blk.new _ _ _)
 have LO_K5 : Hid (w.heap.size ≤ K5) := hid (by omega)
 have NE_K2_K3 : Hid (K2 ≠ K3) := hid (by omega)
 have NE_K2_K4 : Hid (K2 ≠ K4) := hid (by omega)
 have NE_K3_K4 : Hid (K3 ≠ K4) := hid (by omega)
 have NE_K2_K5 : Hid (K2 ≠ K5) := hid (by omega)
 have NE_K3_K5 : Hid (K3 ≠ K5) := hid (by omega)
 have NE_K4_K5 : Hid (K4 ≠ K5) := hid (by omega)
 have HB : Hid (Below w.heap.size w w4) := hid (by rw [hw4, hw3, hw2, hw1]; exact Bl.new (Bl.new (Bl.new (bel_new _ _) _) _) _)
 replace SW := hid (SW.out.call HB.out)
 have HW_w1 := hid hw1
 have HK_K2 := hid hK2
 have HW_w2 := hid hw2
 have HK_K3 := hid hK3
 have HW_w3 := hid hw3
 have HK_K4 := hid hK4
 have HW_w4 := hid hw4
 have HK_K5 := hid hK5
 clear hw1 hw2 hw3 hw4 hK2 hK3 hK4 hK5 zw1 zw2 zw3 zw4
 go_enter Tryz.func91, Tryz.ntmps91
 go_upto_region 1 with (fail)
 rw [← HW_w1.out, ← HK_K2.out, ← HK_K3.out, ← HW_w2.out, ← HK_K4.out, ← HW_w3.out, ← HK_K5.out, ← HW_w4.out]
 have cK20 := D_K2.out.cell 0
 have cK21 := D_K2.out.cell 1
 have cK22 := D_K2.out.cell 2
 have cK30 := D_K3.out.cell 0
 have cK31 := D_K3.out.cell 1
 go_wp2_with fail
 have HBk := hid HB.out.size
 refine (dhashes_ok SW.out).mono ?_; rintro e w5 ⟨KH, rfl, kh, SH_, b_⟩
 clear cK20 cK21 cK22 cK30 cK31
 replace D_K2 := hid (D_K2.out.on b_)
 replace D_K3 := hid (D_K3.out.on b_)
 replace D_K4 := hid (D_K4.out.on b_)
 replace D_K5 := hid (D_K5.out.on b_)
 replace SW := hid (SW.out.call b_)
 replace HB := hid (Bl.call HB.out b_)
 have SH := hid SH_
 clear SH_
 clear b_
 go_upto_region 4 with (fail)
 obtain ⟨w6, hw6⟩ : ∃ W, W = w5.alloc (.cells #[.slice A 4 c, .int .i64 4] 82) := ⟨_, rfl⟩
 obtain ⟨K8, hK8⟩ : ∃ K, K = w5.heap.size := ⟨_, rfl⟩
 have b_ := bel_new w5 (.cells #[.slice A 4 c, .int .i64 4] 82)
 rw [← hw6] at b_
 have D_K8 : Hid (Blk w6 K8 82 [.slice A 4 c, .int .i64 4]) := hid (by rw [hw6, hK8]; exact Blk.new _ _ _)
 have LO_K8 : Hid (w.heap.size ≤ K8) := hid (by rw [hK8]; exact HB.out.size)
 have NE_K2_K8 : Hid (K2 ≠ K8) := hid (by have := D_K2.out.lt; rw [hK8]; omega)
 have NE_K3_K8 : Hid (K3 ≠ K8) := hid (by have := D_K3.out.lt; rw [hK8]; omega)
 have NE_K4_K8 : Hid (K4 ≠ K8) := hid (by have := D_K4.out.lt; rw [hK8]; omega)
 have NE_K5_K8 : Hid (K5 ≠ K8) := hid (by have := D_K5.out.lt; rw [hK8]; omega)
 replace D_K2 := hid (D_K2.out.on b_)
 replace D_K3 := hid (D_K3.out.on b_)
 replace D_K4 := hid (D_K4.out.on b_)
 replace D_K5 := hid (D_K5.out.on b_)
 replace SW := hid (SW.out.call b_)
 replace SH := hid (SH.out.call b_)
 replace HB := hid (Bl.call HB.out b_)
 rw [← hw6, ← hK8]
 have HW_w6 := hid hw6
 have HK_K8 := hid hK8
 clear b_ hw6 hK8
 have cK20 := D_K2.out.cell 0
 have cK21 := D_K2.out.cell 1
 have cK22 := D_K2.out.cell 2
 have L4 : Hid (K4 < w6.heap.size ∧ K5 < w6.heap.size) := hid ⟨D_K4.out.lt, D_K5.out.lt⟩
 go_wp2_with fail
 replace HBk := hid HB.out.size
 refine (tnewA SH.out).mono ?_; rintro e w7 ⟨A1, c1, rfl, o1, b_⟩
 clear cK20 cK21 cK22
 replace D_K2 := hid (D_K2.out.on b_)
 replace D_K3 := hid (D_K3.out.on b_)
 replace D_K4 := hid (D_K4.out.on b_)
 replace D_K5 := hid (D_K5.out.on b_)
 replace D_K8 := hid (D_K8.out.on b_)
 replace SW := hid (SW.out.call b_)
 replace SH := hid (SH.out.call b_)
 replace HB := hid (Bl.call HB.out b_)
 clear b_
 have S1 := hid (Sl.of_own o1)
 have OF1 : Hid (∀ K, K < w.heap.size → Off K (.slice A1 2 c1)) := hid (fun K hK => own_isOff o1 (by have := HBk.out; omega))
 have OG1 : Hid (Off K4 (.slice A1 2 c1) ∧ Off K5 (.slice A1 2 c1)) := hid ⟨own_isOff o1 L4.out.1, own_isOff o1 L4.out.2⟩
 clear o1 L4
 go_upto_region 7 with (fail)
 obtain ⟨w8, hw8⟩ : ∃ W, W = w7.alloc (.cells #[.int .i64 3, .int .i64 2, .int .i64 1, .slice A1 2 c1, .slice none 0 0] 28) := ⟨_, rfl⟩
 obtain ⟨K10, hK10⟩ : ∃ K, K = w7.heap.size := ⟨_, rfl⟩
 have b_ := bel_new w7 (.cells #[.int .i64 3, .int .i64 2, .int .i64 1, .slice A1 2 c1, .slice none 0 0] 28)
 rw [← hw8] at b_
 have D_K10 : Hid (Blk w8 K10 28 [.int .i64 3, .int .i64 2, .int .i64 1, .slice A1 2 c1, .slice none 0 0]) := hid (by rw [hw8, hK10]; exact Blk.new _ _ _)
 have LO_K10 : Hid (w.heap.size ≤ K10) := hid (by rw [hK10]; exact HB.out.size)
 have NE_K2_K10 : Hid (K2 ≠ K10) := hid (by have := D_K2.out.lt; rw [hK10]; omega)
 have NE_K3_K10 : Hid (K3 ≠ K10) := hid (by have := D_K3.out.lt; rw [hK10]; omega)
 have NE_K4_K10 : Hid (K4 ≠ K10) := hid (by have := D_K4.out.lt; rw [hK10]; omega)
 have NE_K5_K10 : Hid (K5 ≠ K10) := hid (by have := D_K5.out.lt; rw [hK10]; omega)
 have NE_K8_K10 : Hid (K8 ≠ K10) := hid (by have := D_K8.out.lt; rw [hK10]; omega)
 replace D_K2 := hid (D_K2.out.on b_)
 replace D_K3 := hid (D_K3.out.on b_)
 replace D_K4 := hid (D_K4.out.on b_)
 replace D_K5 := hid (D_K5.out.on b_)
 replace D_K8 := hid (D_K8.out.on b_)
 replace SW := hid (SW.out.call b_)
 replace SH := hid (SH.out.call b_)
 replace S1 := hid (S1.out.call b_)
 replace HB := hid (Bl.call HB.out b_)
 rw [← hw8, ← hK10]
 have HW_w8 := hid hw8
 have HK_K10 := hid hK10
 clear b_ hw8 hK10
 have cK20 := D_K2.out.cell 0
 have cK21 := D_K2.out.cell 1
 have cK22 := D_K2.out.cell 2
 have L4 : Hid (K4 < w8.heap.size ∧ K5 < w8.heap.size) := hid ⟨D_K4.out.lt, D_K5.out.lt⟩
 go_wp2_with fail
 replace HBk := hid HB.out.size
 refine (vnewA _).mono ?_; rintro e w9 ⟨K11, rfl, k11, S3_, b_⟩
 clear cK20 cK21 cK22
 replace D_K2 := hid (D_K2.out.on b_)
 replace D_K3 := hid (D_K3.out.on b_)
 replace D_K4 := hid (D_K4.out.on b_)
 replace D_K5 := hid (D_K5.out.on b_)
 replace D_K8 := hid (D_K8.out.on b_)
 replace D_K10 := hid (D_K10.out.on b_)
 replace SW := hid (SW.out.call b_)
 replace SH := hid (SH.out.call b_)
 replace S1 := hid (S1.out.call b_)
 replace HB := hid (Bl.call HB.out b_)
 have S3 := hid S3_
 clear S3_
 clear b_
 have OF3 : Hid (∀ K, K < w.heap.size → Off K (.slice (some ⟨K11, 0, none⟩) 3 3)) := hid (fun K hK => off_new (by have := HBk.out; omega))
 have OG3 : Hid (Off K4 (.slice (some ⟨K11, 0, none⟩) 3 3) ∧ Off K5 (.slice (some ⟨K11, 0, none⟩) 3 3)) := hid ⟨off_new (by have := L4.out; omega), off_new (by have := L4.out; omega)⟩
 clear k11 L4
 go_upto_region 12 with (fail)
 have cK100 := D_K10.out.cell 0
 have cK101 := D_K10.out.cell 1
 have cK102 := D_K10.out.cell 2
 have cK103 := D_K10.out.cell 3
 have cK104 := D_K10.out.cell 4
 have cK80 := D_K8.out.cell 0
 have cK81 := D_K8.out.cell 1
 have cK40 := D_K4.out.cell 0
 have cK41 := D_K4.out.cell 1
 have cK42 := D_K4.out.cell 2
 have cK43 := D_K4.out.cell 3
 have cK44 := D_K4.out.cell 4
 have cK45 := D_K4.out.cell 5
 have cK50 := D_K5.out.cell 0
 have cK51 := D_K5.out.cell 1
 have fK40 := D_K4.out.frozen 0
 have fK41 := D_K4.out.frozen 1
 have fK42 := D_K4.out.frozen 2
 have fK43 := D_K4.out.frozen 3
 have fK44 := D_K4.out.frozen 4
 have fK45 := D_K4.out.frozen 5
 have fK50 := D_K5.out.frozen 0
 have fK51 := D_K5.out.frozen 1
 have nK5K4 := NE_K4_K5.out.symm
 have nK4K5 := NE_K4_K5.out
 have nK8K4 := NE_K4_K8.out.symm
 have nK4K8 := NE_K4_K8.out
 have nK8K5 := NE_K5_K8.out.symm
 have nK5K8 := NE_K5_K8.out
 have nK10K4 := NE_K4_K10.out.symm
 have nK4K10 := NE_K4_K10.out
 have nK10K5 := NE_K5_K10.out.symm
 have nK5K10 := NE_K5_K10.out
 have nK10K8 := NE_K8_K10.out.symm
 have nK8K10 := NE_K8_K10.out
 go_region
 obtain ⟨w10, hw10⟩ : ∃ W, W = ((((((w9.setCell ⟨K4, 0, none⟩ (.int .i64 3)).setCell ⟨K4, 1, none⟩ (.int .i64 2)).setCell ⟨K4, 2, none⟩ (.int .i64 1)).setCell ⟨K4, 3, none⟩ (.slice A1 2 c1)).setCell ⟨K4, 4, none⟩ (.slice none 0 0)).setCell ⟨K4, 5, none⟩ (.slice (some ⟨K11, 0, none⟩) 3 3)) := ⟨_, rfl⟩
 have E_K2 : Hid (Blk w10 K2 23 [.int .i64 3, .int .i64 2, .int .i64 1]) := hid (by rw [hw10]; exact ((((((D_K2.out).far (p := ⟨K4, 0, none⟩) NE_K2_K4.out _).far (p := ⟨K4, 1, none⟩) NE_K2_K4.out _).far (p := ⟨K4, 2, none⟩) NE_K2_K4.out _).far (p := ⟨K4, 3, none⟩) NE_K2_K4.out _).far (p := ⟨K4, 4, none⟩) NE_K2_K4.out _).far (p := ⟨K4, 5, none⟩) NE_K2_K4.out _)
 have E_K3 : Hid (Blk w10 K3 82 [.slice A 4 c, .int .i64 0]) := hid (by rw [hw10]; exact ((((((D_K3.out).far (p := ⟨K4, 0, none⟩) NE_K3_K4.out _).far (p := ⟨K4, 1, none⟩) NE_K3_K4.out _).far (p := ⟨K4, 2, none⟩) NE_K3_K4.out _).far (p := ⟨K4, 3, none⟩) NE_K3_K4.out _).far (p := ⟨K4, 4, none⟩) NE_K3_K4.out _).far (p := ⟨K4, 5, none⟩) NE_K3_K4.out _)
 have E_K4 : Hid (Blk w10 K4 85 [.int .i64 3, .int .i64 2, .int .i64 1, .slice A1 2 c1, .slice none 0 0, .slice (some ⟨K11, 0, none⟩) 3 3]) := hid (by rw [hw10]; exact ((((((D_K4.out).put 0 _).put 1 _).put 2 _).put 3 _).put 4 _).put 5 _)
 have E_K5 : Hid (Blk w10 K5 82 [.slice none 0 0, .int .i64 0]) := hid (by rw [hw10]; exact ((((((D_K5.out).far (p := ⟨K4, 0, none⟩) NE_K4_K5.out.symm _).far (p := ⟨K4, 1, none⟩) NE_K4_K5.out.symm _).far (p := ⟨K4, 2, none⟩) NE_K4_K5.out.symm _).far (p := ⟨K4, 3, none⟩) NE_K4_K5.out.symm _).far (p := ⟨K4, 4, none⟩) NE_K4_K5.out.symm _).far (p := ⟨K4, 5, none⟩) NE_K4_K5.out.symm _)
 have E_K8 : Hid (Blk w10 K8 82 [.slice A 4 c, .int .i64 4]) := hid (by rw [hw10]; exact ((((((D_K8.out).far (p := ⟨K4, 0, none⟩) NE_K4_K8.out.symm _).far (p := ⟨K4, 1, none⟩) NE_K4_K8.out.symm _).far (p := ⟨K4, 2, none⟩) NE_K4_K8.out.symm _).far (p := ⟨K4, 3, none⟩) NE_K4_K8.out.symm _).far (p := ⟨K4, 4, none⟩) NE_K4_K8.out.symm _).far (p := ⟨K4, 5, none⟩) NE_K4_K8.out.symm _)
 have E_K10 : Hid (Blk w10 K10 28 [.int .i64 3, .int .i64 2, .int .i64 1, .slice A1 2 c1, .slice none 0 0]) := hid (by rw [hw10]; exact ((((((D_K10.out).far (p := ⟨K4, 0, none⟩) NE_K4_K10.out.symm _).far (p := ⟨K4, 1, none⟩) NE_K4_K10.out.symm _).far (p := ⟨K4, 2, none⟩) NE_K4_K10.out.symm _).far (p := ⟨K4, 3, none⟩) NE_K4_K10.out.symm _).far (p := ⟨K4, 4, none⟩) NE_K4_K10.out.symm _).far (p := ⟨K4, 5, none⟩) NE_K4_K10.out.symm _)
 have EB : Hid (Below w.heap.size w w10) := hid (by rw [hw10]; exact ((((((HB.out).setCell (p := ⟨K4, 0, none⟩) LO_K4.out _).setCell (p := ⟨K4, 1, none⟩) LO_K4.out _).setCell (p := ⟨K4, 2, none⟩) LO_K4.out _).setCell (p := ⟨K4, 3, none⟩) LO_K4.out _).setCell (p := ⟨K4, 4, none⟩) LO_K4.out _).setCell (p := ⟨K4, 5, none⟩) LO_K4.out _)
 have E_S1 : Hid (Sl w10 w10.heap.size 2 (.slice A1 2 c1) 2 (hcs hsA)) := hid (by rw [hw10]; exact ((((((S1.out.off OG1.out.1).off OG1.out.1).off OG1.out.1).off OG1.out.1).off OG1.out.1).off OG1.out.1))
 have E_S3 : Hid (Sl w10 w10.heap.size 2 (.slice (some ⟨K11, 0, none⟩) 3 3) 3 (sls sA0)) := hid (by rw [hw10]; exact ((((((S3.out.off OG3.out.1).off OG3.out.1).off OG3.out.1).off OG3.out.1).off OG3.out.1).off OG3.out.1))
 have HW_w10 := hid hw10
 clear hw10
 rw [← HW_w10.out]
 clear cK100 cK101 cK102 cK103 cK104 cK80 cK81 cK40 cK41 cK42 cK43 cK44 cK45 cK50 cK51 fK40 fK41 fK42 fK43 fK44 fK45 fK50 fK51 nK5K4 nK4K5 nK8K4 nK4K8 nK8K5 nK5K8 nK10K4 nK4K10 nK10K5 nK5K10 nK10K8 nK8K10
 clear HB D_K2 D_K3 D_K4 D_K5 D_K8 D_K10 S1 S3
 have D_K2 := E_K2
 have D_K3 := E_K3
 have D_K4 := E_K4
 have D_K5 := E_K5
 have D_K8 := E_K8
 have D_K10 := E_K10
 have HB := EB
 have S1 := E_S1
 have S3 := E_S3
 clear EB E_K2 E_K3 E_K4 E_K5 E_K8 E_K10 E_S1 E_S3
 obtain ⟨w11, hw11⟩ : ∃ W, W = ((w10.setCell ⟨K5, 0, none⟩ (.slice A 4 c)).setCell ⟨K5, 1, none⟩ (.int .i64 4)).drew := ⟨_, rfl⟩
 have E_K2 : Hid (Blk w11 K2 23 [.int .i64 3, .int .i64 2, .int .i64 1]) := hid (by rw [hw11]; exact ((D_K2.out).far (p := ⟨K5, 0, none⟩) NE_K2_K5.out _).far (p := ⟨K5, 1, none⟩) NE_K2_K5.out _)
 have E_K3 : Hid (Blk w11 K3 82 [.slice A 4 c, .int .i64 0]) := hid (by rw [hw11]; exact ((D_K3.out).far (p := ⟨K5, 0, none⟩) NE_K3_K5.out _).far (p := ⟨K5, 1, none⟩) NE_K3_K5.out _)
 have E_K4 : Hid (Blk w11 K4 85 [.int .i64 3, .int .i64 2, .int .i64 1, .slice A1 2 c1, .slice none 0 0, .slice (some ⟨K11, 0, none⟩) 3 3]) := hid (by rw [hw11]; exact ((D_K4.out).far (p := ⟨K5, 0, none⟩) NE_K4_K5.out _).far (p := ⟨K5, 1, none⟩) NE_K4_K5.out _)
 have E_K5 : Hid (Blk w11 K5 82 [.slice A 4 c, .int .i64 4]) := hid (by rw [hw11]; exact ((D_K5.out).put 0 _).put 1 _)
 have E_K8 : Hid (Blk w11 K8 82 [.slice A 4 c, .int .i64 4]) := hid (by rw [hw11]; exact ((D_K8.out).far (p := ⟨K5, 0, none⟩) NE_K5_K8.out.symm _).far (p := ⟨K5, 1, none⟩) NE_K5_K8.out.symm _)
 have E_K10 : Hid (Blk w11 K10 28 [.int .i64 3, .int .i64 2, .int .i64 1, .slice A1 2 c1, .slice none 0 0]) := hid (by rw [hw11]; exact ((D_K10.out).far (p := ⟨K5, 0, none⟩) NE_K5_K10.out.symm _).far (p := ⟨K5, 1, none⟩) NE_K5_K10.out.symm _)
 have EB : Hid (Below w.heap.size w w11) := hid (by rw [hw11]; exact Bl.qt (((HB.out).setCell (p := ⟨K5, 0, none⟩) LO_K5.out _).setCell (p := ⟨K5, 1, none⟩) LO_K5.out _) (qt_drew _))
 have E_S1 : Hid (Sl w11 w11.heap.size 2 (.slice A1 2 c1) 2 (hcs hsA)) := hid (by rw [hw11]; exact ((S1.out.off OG1.out.2).off OG1.out.2).cqt (qt_drew _))
 have E_S3 : Hid (Sl w11 w11.heap.size 2 (.slice (some ⟨K11, 0, none⟩) 3 3) 3 (sls sA0)) := hid (by rw [hw11]; exact ((S3.out.off OG3.out.2).off OG3.out.2).cqt (qt_drew _))
 have HW_w11 := hid hw11
 clear hw11
 rw [← HW_w11.out]
 clear HB D_K2 D_K3 D_K4 D_K5 D_K8 D_K10 S1 S3
 have D_K2 := E_K2
 have D_K3 := E_K3
 have D_K4 := E_K4
 have D_K5 := E_K5
 have D_K8 := E_K8
 have D_K10 := E_K10
 have HB := EB
 have S1 := E_S1
 have S3 := E_S3
 clear EB E_K2 E_K3 E_K4 E_K5 E_K8 E_K10 E_S1 E_S3
 have cK40 := D_K4.out.cell 0
 have cK41 := D_K4.out.cell 1
 have cK42 := D_K4.out.cell 2
 have cK43 := D_K4.out.cell 3
 have cK44 := D_K4.out.cell 4
 have cK45 := D_K4.out.cell 5
 have cK50 := D_K5.out.cell 0
 have cK51 := D_K5.out.cell 1
 go_wp2
 exact bodyPost_ret (v := .tuple #[.agg #[.int .i64 3, .int .i64 2, .int .i64 1, .slice A1 2 c1, .slice none 0 0, .slice (some ⟨K11, 0, none⟩) 3 3], .agg #[.slice A 4 c, .int .i64 4], .int .i64 0]) (by simp [results, Tryz.results91, go_sem, cK40, cK41, cK42, cK43, cK44, cK45, cK50, cK51]) rfl ⟨A1, c1, _, _, rfl, ⟨S1.out, Sl.none_ _ _ _, S3.out⟩, fun K hK => ⟨OF1.out K hK, OF3.out K hK⟩, HB.out⟩
end Go.Proofs.YtahodfikhocobaaGreatDoor
namespace Go.Proofs.YtahodfikhocobaaGreatDoor
open Go.RowKit
set_option linter.unusedVariables false
set_option linter.unusedSimpArgs false
attribute [local go_sem ↓] Go.wp_at_zero Go.wp_at_succ
def PartPost (p : List Int) (w : World) (e : Ending) (w' : World) : Prop := ∃ A c, e = .returned (.slice A 3 c) ∧ Sl w' w'.heap.size 1 (.slice A 3 c) 3 (ints p) ∧ Below w.heap.size w w'
def OfPost3 (p : List Int) (w : World) (e : Ending) (w' : World) : Prop := ∃ A c, e = .returned (.tuple #[.slice A 3 c, .int .i64 0]) ∧ Sl w' w'.heap.size 1 (.slice A 3 c) 3 (ints p) ∧ Below w.heap.size w w'
theorem of_3 {v : Value} {m : Nat} {l : List (Int × Int × Int)} {w : World} {p : List Int} (hs : Sl w w.heap.size 3 v m (eds l)) (hm : Pt.mayB 3 l = true) (hp : Pt.partOf 3 (Pt.uv l) = p) : Calls Tryz.prog 70 #[.int .i64 3, v] w (OfPost3 p w) :=
 (of_ok (n := 3) (by omega) hs (Nat.le_refl _) hm).mono fun e w' ⟨v', he, hs', hb⟩ => by
  rw [hp] at hs'
  obtain ⟨A, c, rfl, _⟩ := id hs'
  exact ⟨A, c, he, hs', hb⟩
theorem sright_3 {v1 v2 : Value} {es : List (Int × Int × Int)} {w : World} (hm : GM w v1 v2 hsA es) (h : GP 3 2 1 hsA es) : Calls Tryz.prog 19 #[.agg #[.int .i64 3, .int .i64 2, .int .i64 1, v1, v2]] w fun e w' => e = .returned (.bool true) ∧ Below w.heap.size w w' := sright_gp hm h
variable {A1 A2 : Option Addr} {c1 c2 : Nat} {es : List (Int × Int × Int)} {w : World} {p : List Int}
set_option maxHeartbeats 16000000 in
set_option maxRecDepth 100000 in
theorem kept_A (hm : GM w (.slice A1 2 c1) (.slice A2 es.length c2) hsA es) (hp : GP 3 2 1 hsA es) (h1 : Pt.mayB 3 (frs 2 es) = true) (h2 : Pt.partOf 3 (Pt.uv (frs 2 es)) = p) : Calls Tryz.prog 135 #[.agg #[.int .i64 3, .int .i64 2, .int .i64 1, .slice A1 2 c1, .slice A2 es.length c2]] w (PartPost p w) := by
 have GM_ := hid hm
 have HP := hid hp
 have HM := hid h1
 have HQ := hid h2
 have hel := hp.el
 clear hm hp h1 h2
 obtain ⟨w1, hw1⟩ : ∃ W, W = w.alloc (.cells #[.int .i64 3, .int .i64 2, .int .i64 1, .slice A1 2 c1, .slice A2 es.length c2] 28) := ⟨_, rfl⟩
 obtain ⟨K1, hK1⟩ : ∃ K, K = w.heap.size := ⟨_, rfl⟩
 have zw1 : w1.heap.size = K1 + 1 := by rw [hw1, hK1]; simp
 have D_K1 : Hid (Blk w1 K1 28 [.int .i64 3, .int .i64 2, .int .i64 1, .slice A1 2 c1, .slice A2 es.length c2]) := hid (by rw [hK1]; rw [hw1]; exact Blk.new _ _ _)
 have LO_K1 : Hid (w.heap.size ≤ K1) := hid (by omega)
 have HB : Hid (Below w.heap.size w w1) := hid (by rw [hw1]; exact bel_new _ _)
 replace GM_ := hid (GM_.out.call HB.out)
 have HW_w1 := hid hw1
 have HK_K1 := hid hK1
 clear hw1 hK1 zw1
 go_enter Tryz.func135, Tryz.ntmps135
 go_upto_region 1 with (fail)
 rw [← HW_w1.out, ← HK_K1.out]
 have cK10 := D_K1.out.cell 0
 have cK11 := D_K1.out.cell 1
 have cK12 := D_K1.out.cell 2
 have cK13 := D_K1.out.cell 3
 have cK14 := D_K1.out.cell 4
 go_wp2_with fail
 have HBk := hid HB.out.size
 refine (sright_3 GM_.out HP.out).mono ?_; rintro e w2 ⟨rfl, b_⟩
 clear cK10 cK11 cK12 cK13 cK14
 replace D_K1 := hid (D_K1.out.on b_)
 replace GM_ := hid (GM_.out.call b_)
 replace HB := hid (Bl.call HB.out b_)
 clear b_
 have GQ := GM_.out.se
 have GQ2 := hid GQ
 clear GQ
 have cK10 := D_K1.out.cell 0
 have cK11 := D_K1.out.cell 1
 have cK12 := D_K1.out.cell 2
 have cK13 := D_K1.out.cell 3
 have cK14 := D_K1.out.cell 4
 have HTF : Hid (∀ {W : World}, Sl W W.heap.size 3 (.slice A2 es.length c2) es.length (eds es) → Calls Tryz.prog 45 #[.int .i64 3, .slice A2 es.length c2, .int .i64 2] W (FrsPost W (frs 2 es))) := hid (fun hs => tforest_any hs HP.out.tab (by omega))
 have HOF : Hid (∀ {W : World} {v : Value}, Sl W W.heap.size 3 v (frs 2 es).length (eds (frs 2 es)) → Calls Tryz.prog 70 #[.int .i64 3, v] W (OfPost3 p W)) := hid (fun hs => of_3 hs HM.out HQ.out)
 go_upto_region 3 with (fail)
 go_region_held3 (fun w' => w'.cell? ⟨K1, 0, none⟩ = some (.int .i64 3) ∧ w'.cell? ⟨K1, 1, none⟩ = some (.int .i64 2) ∧ w'.cell? ⟨K1, 2, none⟩ = some (.int .i64 1) ∧ w'.cell? ⟨K1, 3, none⟩ = some (.slice A1 2 c1) ∧ w'.cell? ⟨K1, 4, none⟩ = some (.slice A2 es.length c2))
  (first | go_keep | (go_split_ands; and_intros <;> (first | (refine cell_later (by assumption) ?_; first | assumption | (rw [Qt.cell (qt_of _ _)]; assumption) | (rw [Qt.cell (qt_drew _)]; assumption)) | (refine cell_later (bel_new _ _) ?_; assumption) | (rw [Qt.cell (by assumption)]; first | assumption | (rw [Qt.cell (qt_of _ _)]; assumption) | (rw [Qt.cell (qt_drew _)]; assumption)))))
  (first | (go_at_call 45; (with_reducible refine (HTF.out (by repeat (first | exact GQ2.out | refine Sl.new ?_ _ | refine Sl.cqt ?_ (qt_drew _) | refine Sl.cqt ?_ (qt_of _ _) | refine Sl.call ?_ (by assumption) | refine Sl.cqt ?_ (by assumption)))).mono ?_); rintro e wf ⟨vf, rfl, sf, bf⟩) | (go_at_call 70; (with_reducible refine (HOF.out sf).mono ?_); rintro e wz ⟨Az, cz, rfl, sz, bz⟩))
 all_goals
  have HBZ := hid (Bl.call (Bl.call (Bl.qt HB.out (qt_drew _)) bf) bz)
  have SZ := hid sz
  clear cK10 cK11 cK12 cK13 cK14
  go_wp2_with fail
  go_ret
  exact ⟨Az, cz, rfl, SZ.out, HBZ.out⟩
set_option maxHeartbeats 16000000 in
set_option maxRecDepth 100000 in
theorem so_A (hm : GM w (.slice A1 2 c1) (.slice A2 es.length c2) hsA es) (hp : GP 3 2 1 hsA es) (h1 : Pt.mayB 3 es = true) (h2 : Pt.partOf 3 (Pt.uv es) = p) : Calls Tryz.prog 172 #[.agg #[.int .i64 3, .int .i64 2, .int .i64 1, .slice A1 2 c1, .slice A2 es.length c2]] w (PartPost p w) := by
 have GM_ := hid hm
 have HP := hid hp
 have HM := hid h1
 have HQ := hid h2
 clear hm hp h1 h2
 obtain ⟨w1, hw1⟩ : ∃ W, W = w.alloc (.cells #[.int .i64 3, .int .i64 2, .int .i64 1, .slice A1 2 c1, .slice A2 es.length c2] 28) := ⟨_, rfl⟩
 obtain ⟨K1, hK1⟩ : ∃ K, K = w.heap.size := ⟨_, rfl⟩
 have zw1 : w1.heap.size = K1 + 1 := by rw [hw1, hK1]; simp
 have D_K1 : Hid (Blk w1 K1 28 [.int .i64 3, .int .i64 2, .int .i64 1, .slice A1 2 c1, .slice A2 es.length c2]) := hid (by rw [hK1]; rw [hw1]; exact Blk.new _ _ _)
 have LO_K1 : Hid (w.heap.size ≤ K1) := hid (by omega)
 have HB : Hid (Below w.heap.size w w1) := hid (by rw [hw1]; exact bel_new _ _)
 replace GM_ := hid (GM_.out.call HB.out)
 have HW_w1 := hid hw1
 have HK_K1 := hid hK1
 clear hw1 hK1 zw1
 go_enter Tryz.func172, Tryz.ntmps172
 go_upto_region 1 with (fail)
 rw [← HW_w1.out, ← HK_K1.out]
 have cK10 := D_K1.out.cell 0
 have cK11 := D_K1.out.cell 1
 have cK12 := D_K1.out.cell 2
 have cK13 := D_K1.out.cell 3
 have cK14 := D_K1.out.cell 4
 go_wp2_with fail
 have HBk := hid HB.out.size
 refine (sright_3 GM_.out HP.out).mono ?_; rintro e w2 ⟨rfl, b_⟩
 clear cK10 cK11 cK12 cK13 cK14
 replace D_K1 := hid (D_K1.out.on b_)
 replace GM_ := hid (GM_.out.call b_)
 replace HB := hid (Bl.call HB.out b_)
 clear b_
 have cK10 := D_K1.out.cell 0
 have cK11 := D_K1.out.cell 1
 have cK12 := D_K1.out.cell 2
 have cK13 := D_K1.out.cell 3
 have cK14 := D_K1.out.cell 4
 go_wp2_with fail
 replace HBk := hid HB.out.size
 refine (of_3 GM_.out.se HM.out HQ.out).mono ?_; rintro e w3 ⟨Az, cz, rfl, SZ_, b_⟩
 clear cK10 cK11 cK12 cK13 cK14
 replace D_K1 := hid (D_K1.out.on b_)
 replace GM_ := hid (GM_.out.call b_)
 replace HB := hid (Bl.call HB.out b_)
 have SZ := hid SZ_
 clear SZ_
 clear b_
 go_wp2_with fail
 go_ret
 exact ⟨Az, cz, rfl, SZ.out, HB.out⟩
set_option maxHeartbeats 4000000 in
set_option maxRecDepth 100000 in
theorem eqi_same {A B : Option Addr} {c d : Nat} (hl : p.length = 3) (h1 : Sl w w.heap.size 1 (.slice A 3 c) 3 (ints p)) (h2 : Sl w w.heap.size 1 (.slice B 3 d) 3 (ints p)) : Calls Tryz.prog 171 #[.slice A 3 c, .slice B 3 d] w fun e w' => e = .returned (.bool true) ∧ Qt w w' := by
 obtain ⟨_, _, he, _, _, _, hx⟩ := h1
 injection he with e1 e2 e3
 subst e1 e3
 obtain ⟨b, o, rfl, hb, hc⟩ := hx (by omega)
 obtain ⟨_, _, he, _, _, _, hx'⟩ := h2
 injection he with e1 e2 e3
 subst e1 e3
 obtain ⟨b', o', rfl, hb', hc'⟩ := hx' (by omega)
 have HC := hid hc
 have HC2 := hid hc'
 have HL := hid hl
 clear hx hx' hc hc' hb hb' hl
 go_enter Tryz.func171, Tryz.ntmps171
 go_wp2
 go_loopw [13] (fun iv wr => ∃ k : Nat, k ≤ 3 ∧ iv = .int .i64 (k : Int) ∧ Qt w wr) (fun iv _ => 3 - (intOf iv).toNat)
 case atStart => exact ⟨0, by omega, rfl, Qt.refl _⟩
 case round =>
  obtain ⟨k, hk, rfl, hq⟩ := hrel
  by_cases hlt : k < 3
  ·
   have g1 := (hq.cell ⟨b, o + k, none⟩).trans (ints_cell HC.out (by have := HL.out; omega))
   have g2 := (hq.cell ⟨b', o' + k, none⟩).trans (ints_cell HC2.out (by have := HL.out; omega))
   obtain ⟨x, hx⟩ : ∃ x, x = p.getD k 0 := ⟨_, rfl⟩
   rw [← hx] at g1 g2
   clear hx
   have i1 : (k : Int) < 3 := by omega
   have i0 : (0 : Int) ≤ (k : Int) := by omega
   have e1 : (x != x) = false := by simp
   go_wp2_with fail
   go_quiet (fail)
   go_wp2
   go_roundw
   case rel => exact ⟨k + 1, by omega, by go_num, hq.drewN _⟩
   case measure => simp [intOf]; omega
  ·
   obtain rfl : k = 3 := by omega
   go_wp2
   go_ret
   exact ⟨rfl, hq⟩
set_option maxHeartbeats 16000000 in
set_option maxRecDepth 100000 in
theorem exact_A (hm : GM w (.slice A1 2 c1) (.slice A2 es.length c2) hsA es) (hp : GP 3 2 1 hsA es) (hl : p.length = 3) (h1 : Pt.mayB 3 (frs 2 es) = true) (h2 : Pt.partOf 3 (Pt.uv (frs 2 es)) = p) (h3 : Pt.mayB 3 es = true) (h4 : Pt.partOf 3 (Pt.uv es) = p) : Calls Tryz.prog 141 #[.agg #[.int .i64 3, .int .i64 2, .int .i64 1, .slice A1 2 c1, .slice A2 es.length c2]] w (fun e w' => e = .returned (.bool true) ∧ Below w.heap.size w w') := by
 have GM_ := hid hm
 have HP := hid hp
 have HM := hid h1
 have HQ := hid h2
 have HM2 := hid h3
 have HQ2 := hid h4
 have HLp := hid hl
 clear hm hp h1 h2 h3 h4 hl
 obtain ⟨w1, hw1⟩ : ∃ W, W = w.alloc (.cells #[.int .i64 3, .int .i64 2, .int .i64 1, .slice A1 2 c1, .slice A2 es.length c2] 28) := ⟨_, rfl⟩
 obtain ⟨K1, hK1⟩ : ∃ K, K = w.heap.size := ⟨_, rfl⟩
 have zw1 : w1.heap.size = K1 + 1 := by rw [hw1, hK1]; simp
 have D_K1 : Hid (Blk w1 K1 28 [.int .i64 3, .int .i64 2, .int .i64 1, .slice A1 2 c1, .slice A2 es.length c2]) := hid (by rw [hK1]; rw [hw1]; exact Blk.new _ _ _)
 have LO_K1 : Hid (w.heap.size ≤ K1) := hid (by omega)
 have HB : Hid (Below w.heap.size w w1) := hid (by rw [hw1]; exact bel_new _ _)
 replace GM_ := hid (GM_.out.call HB.out)
 have HW_w1 := hid hw1
 have HK_K1 := hid hK1
 clear hw1 hK1 zw1
 go_enter Tryz.func141, Tryz.ntmps141
 go_upto_region 1 with (fail)
 rw [← HW_w1.out, ← HK_K1.out]
 have HR : Hid (∀ {W : World}, GM W (.slice A1 2 c1) (.slice A2 es.length c2) hsA es → Calls Tryz.prog 19 #[.agg #[.int .i64 3, .int .i64 2, .int .i64 1, .slice A1 2 c1, .slice A2 es.length c2]] W fun e w' => e = .returned (.bool true) ∧ Below W.heap.size W w') := hid (fun h => sright_3 h HP.out)
 have HK : Hid (∀ {W : World}, GM W (.slice A1 2 c1) (.slice A2 es.length c2) hsA es → Calls Tryz.prog 135 #[.agg #[.int .i64 3, .int .i64 2, .int .i64 1, .slice A1 2 c1, .slice A2 es.length c2]] W (PartPost p W)) := hid (fun h => kept_A h HP.out HM.out HQ.out)
 have HS : Hid (∀ {W : World}, GM W (.slice A1 2 c1) (.slice A2 es.length c2) hsA es → Calls Tryz.prog 172 #[.agg #[.int .i64 3, .int .i64 2, .int .i64 1, .slice A1 2 c1, .slice A2 es.length c2]] W (PartPost p W)) := hid (fun h => so_A h HP.out HM2.out HQ2.out)
 have HE : Hid (∀ {W : World} {A B : Option Addr} {c d : Nat}, Sl W W.heap.size 1 (.slice A 3 c) 3 (ints p) → Sl W W.heap.size 1 (.slice B 3 d) 3 (ints p) → Calls Tryz.prog 171 #[.slice A 3 c, .slice B 3 d] W fun e w' => e = .returned (.bool true) ∧ Qt W w') := hid (fun h h' => eqi_same HLp.out h h')
 have cK10 := D_K1.out.cell 0
 have cK11 := D_K1.out.cell 1
 have cK12 := D_K1.out.cell 2
 have cK13 := D_K1.out.cell 3
 have cK14 := D_K1.out.cell 4
 go_upto_region 1 with (fail)
 go_region_held3 (fun w' => w'.cell? ⟨K1, 0, none⟩ = some (.int .i64 3) ∧ w'.cell? ⟨K1, 1, none⟩ = some (.int .i64 2) ∧ w'.cell? ⟨K1, 2, none⟩ = some (.int .i64 1) ∧ w'.cell? ⟨K1, 3, none⟩ = some (.slice A1 2 c1) ∧ w'.cell? ⟨K1, 4, none⟩ = some (.slice A2 es.length c2))
  (first | go_keep | (go_split_ands; and_intros <;> (first | (refine cell_later (by assumption) ?_; first | assumption | (rw [Qt.cell (qt_of _ _)]; assumption) | (rw [Qt.cell (qt_drew _)]; assumption)) | (refine cell_later (bel_new _ _) ?_; assumption) | (rw [Qt.cell (by assumption)]; first | assumption | (rw [Qt.cell (qt_of _ _)]; assumption) | (rw [Qt.cell (qt_drew _)]; assumption)))))
  (first | (go_at_call 19; (with_reducible refine (HR.out (by repeat (first | exact GM_.out | refine GM.new ?_ _ | refine GM.cqt ?_ (qt_drew _) | refine GM.cqt ?_ (qt_of _ _) | refine GM.call ?_ (by assumption) | refine GM.cqt ?_ (by assumption)))).mono ?_); rintro e wz ⟨rfl, br⟩) | (go_at_call 135; (with_reducible refine (HK.out (by repeat (first | exact GM_.out | refine GM.new ?_ _ | refine GM.cqt ?_ (qt_drew _) | refine GM.cqt ?_ (qt_of _ _) | refine GM.call ?_ (by assumption) | refine GM.cqt ?_ (by assumption)))).mono ?_); rintro e wz ⟨Ak, ck, rfl, sk, bk⟩) | (go_at_call 172; (with_reducible refine (HS.out (by repeat (first | exact GM_.out | refine GM.new ?_ _ | refine GM.cqt ?_ (qt_drew _) | refine GM.cqt ?_ (qt_of _ _) | refine GM.call ?_ (by assumption) | refine GM.cqt ?_ (by assumption)))).mono ?_); rintro e wz ⟨Ao, co, rfl, so, bo⟩) | (go_at_call 171; (with_reducible refine (HE.out (by repeat (first | exact sk | refine Sl.new ?_ _ | refine Sl.cqt ?_ (qt_drew _) | refine Sl.cqt ?_ (qt_of _ _) | refine Sl.call ?_ (by assumption) | refine Sl.cqt ?_ (by assumption))) (by repeat (first | exact so | refine Sl.new ?_ _ | refine Sl.cqt ?_ (qt_drew _) | refine Sl.cqt ?_ (qt_of _ _) | refine Sl.call ?_ (by assumption) | refine Sl.cqt ?_ (by assumption)))).mono ?_); rintro e wz ⟨rfl, bq⟩))
 all_goals
  have HBZ := hid (Bl.call HB.out (show Below w1.heap.size w1 wz by repeat (first | exact Below.refl _ _ | refine Bl.call ?_ (by assumption) | refine Bl.qt ?_ (by assumption) | refine Bl.qt ?_ (qt_drew _))))
  clear cK10 cK11 cK12 cK13 cK14
  go_wp2_with fail
  go_ret
  exact ⟨rfl, HBZ.out⟩
end Go.Proofs.YtahodfikhocobaaGreatDoor
namespace Go.Proofs.YtahodfikhocobaaGreatDoor
open Go.RowKit
set_option linter.unusedVariables false
set_option linter.unusedSimpArgs false
attribute [local go_sem ↓] Go.wp_at_zero Go.wp_at_succ
theorem isnan_u (x : Int) (w : World) : Calls Tryz.prog 195 #[.int .u64 x] w fun e w' => e = .returned (.bool false) ∧ w = w' := by
 have e1 : (x != x) = false := by simp
 go_enter Tryz.func195, Tryz.ntmps195
 go_wp2
 go_ret
 exact ⟨rfl, rfl⟩
theorem less_64 (w : World) : Calls Tryz.prog 209 #[.int .u64 6, .int .u64 4] w fun e w' => e = .returned (.bool false) ∧ w = w' := by
 go_enter Tryz.func209, Tryz.ntmps209
 go_wp2_with (go_at_call 195; refine (isnan_u _ _).mono ?_; rintro e _ ⟨rfl, rfl⟩)
 go_ret
 exact ⟨rfl, rfl⟩
set_option maxHeartbeats 4000000 in
set_option maxRecDepth 100000 in
theorem isort_2 {A : Option Addr} {c : Nat} {w : World} (h : Sl w w.heap.size 1 (.slice A 2 c) 2 (us [4, 6])) : Calls Tryz.prog 203 #[.slice A 2 c, .int .i64 0, .int .i64 2] w fun e w' => e = .returned (.tuple #[]) ∧ Qt w w' := by
 obtain ⟨_, _, he, _, _, _, hx⟩ := h
 injection he with e1 e2 e3
 subst e1 e3
 obtain ⟨b, o, rfl, hb, hc⟩ := hx (by omega)
 have x0 : w.cell? ⟨b, o, none⟩ = some (.int .u64 4) := hc 0 _ rfl
 have x1 : w.cell? ⟨b, o + 1, none⟩ = some (.int .u64 6) := hc 1 _ rfl
 have X0 := hid x0
 have X1 := hid x1
 clear hx hc hb x0 x1
 go_enter Tryz.func203, Tryz.ntmps203
 go_wp2
 go_loopw [6] (fun iv wr => ∃ i : Nat, (i = 1 ∨ i = 2) ∧ iv = .int .i64 (i : Int) ∧ Qt w wr) (fun iv _ => 2 - (intOf iv).toNat)
 case atStart => exact ⟨1, .inl rfl, rfl, Qt.refl _⟩
 case round =>
  obtain ⟨i, hi, rfl, hq⟩ := hrel
  rcases hi with rfl | rfl
  ·
   have y0 := (hq.cell _).trans X0.out
   have y1 := (hq.cell _).trans X1.out
   go_wp2
   obtain ⟨wo, rfl⟩ : ∃ wo : World, wo = wr := ⟨_, rfl⟩
   go_loopw [7] (fun jv wr2 => jv = .int .i64 1 ∧ wo = wr2) (fun _ _ => 0)
   case atStart => exact ⟨rfl, rfl⟩
   case round =>
    obtain ⟨rfl, rfl⟩ := hrel
    have q1 : IntKind.i64.wrap 0 = 0 := by decide
    have q2 : IntKind.i64.wrap (1 - 1) = 0 := by decide
    go_wp2_with fail
    go_quiet ((go_at_call 209; exact quiet_eq (less_64 _)))
    go_wp2
    go_roundw
    case rel => exact ⟨2, .inr rfl, rfl, hq.drewN _⟩
    case measure => simp [intOf]
  ·
   go_wp2
   go_end0
   exact ⟨rfl, hq⟩
set_option maxHeartbeats 4000000 in
set_option maxRecDepth 100000 in
theorem pdq_2 {A : Option Addr} {c : Nat} {w : World} (h : Sl w w.heap.size 1 (.slice A 2 c) 2 (us [4, 6])) : Calls Tryz.prog 193 #[.slice A 2 c, .int .i64 0, .int .i64 2, .int .i64 2] w fun e w' => e = .returned (.tuple #[]) ∧ Qt w w' := by
 have H := hid h
 clear h
 go_enter Tryz.func193, Tryz.ntmps193
 go_wp2
 go_loopw [1, 2] (fun av bv wr => av = .int .i64 0 ∧ bv = .int .i64 2 ∧ w = wr) (fun _ _ _ => 0)
 case atStart => exact ⟨rfl, rfl, rfl⟩
 case round =>
  obtain ⟨rfl, rfl, rfl⟩ := hrel
  go_wp2_with fail
  refine (isort_2 H.out).mono ?_; rintro e w2 ⟨rfl, hq⟩
  have HQ := hid hq
  clear hq
  go_wp2
  exact bodyPost_ret (results_none rfl _ _ _) rfl ⟨rfl, HQ.out⟩
theorem sort_2 {A : Option Addr} {c : Nat} {w : World} (h : Sl w w.heap.size 1 (.slice A 2 c) 2 (us [4, 6])) : Calls Tryz.prog 165 #[.slice A 2 c] w fun e w' => e = .returned (.tuple #[]) ∧ Qt w w' := by
 have H := hid h
 clear h
 go_enter Tryz.func165, Tryz.ntmps165
 go_wp2_with fail
 refine (tlen_2 _).mono ?_; rintro e _ ⟨rfl, rfl⟩
 go_wp2_with fail
 refine (pdq_2 H.out).mono ?_; rintro e w2 ⟨rfl, hq⟩
 have HQ := hid hq
 clear hq
 go_wp2
 go_end0
 exact ⟨rfl, HQ.out⟩
set_option maxHeartbeats 16000000 in
set_option maxRecDepth 100000 in
theorem keys_A {A1 A2 A3 Al : Option Addr} {n2 c1 c2 c3 cl : Nat} {w : World} (h3 : Sl w w.heap.size 2 (.slice A3 3 c3) 3 (sls sA3)) (hl : Sl w w.heap.size 1 (.slice Al 2 cl) 2 (ints [0, 1])) : Calls Tryz.prog 137 #[.agg #[.int .i64 3, .int .i64 2, .int .i64 1, .slice A1 2 c1, .slice A2 n2 c2, .slice A3 3 c3], .slice Al 2 cl] w fun e w' => ∃ A c, e = .returned (.slice A 2 c) ∧ Below w.heap.size w w' := by
 have S3 := hid h3
 have SL := hid hl
 clear h3 hl
 obtain ⟨w1, hw1⟩ : ∃ W, W = w.alloc (.cells #[.int .i64 3, .int .i64 2, .int .i64 1, .slice A1 2 c1, .slice A2 n2 c2, .slice A3 3 c3] 85) := ⟨_, rfl⟩
 obtain ⟨K2, hK2⟩ : ∃ K, K = w.heap.size := ⟨_, rfl⟩
 have zw1 : w1.heap.size = K2 + 1 := by rw [hw1, hK2]; simp
 have D_K2 : Hid (Blk w1 K2 85 [.int .i64 3, .int .i64 2, .int .i64 1, .slice A1 2 c1, .slice A2 n2 c2, .slice A3 3 c3]) := hid (by rw [hK2]; rw [hw1]; exact Blk.new _ _ _)
 have LO_K2 : Hid (w.heap.size ≤ K2) := hid (by omega)
 have HB : Hid (Below w.heap.size w w1) := hid (by rw [hw1]; exact bel_new _ _)
 replace S3 := hid (S3.out.call HB.out)
 replace SL := hid (SL.out.call HB.out)
 have HW_w1 := hid hw1
 have HK_K2 := hid hK2
 clear hw1 hK2 zw1
 go_enter Tryz.func137, Tryz.ntmps137
 go_upto_region 1 with (fail)
 rw [← HW_w1.out, ← HK_K2.out]
 go_wp2_with fail
 go_loopw [5, 10] (fun ov iv wr => ∃ (i : Nat) (vo : Value), vo = ov ∧ iv = .int .i64 (i : Int) ∧ i ≤ 2 ∧ Hid (wr.ownsRow w1.heap.size 40 1 vo i (us (([4, 6] : List Nat).take i))) ∧ Hid (Below w1.heap.size w1 wr)) (fun _ iv _ => 2 - (intOf iv).toNat)
 case atStart => exact ⟨0, _, rfl, rfl, Nat.zero_le _, hid (World.ownsRow_nil _ _ _ _), hid (Below.refl _ _)⟩
 case round =>
  obtain ⟨i, vo, rfl, rfl, hi, HO, HR⟩ := hrel
  have D2r := hid (D_K2.out.on HR.out)
  have S3r := S3.out.call HR.out
  have SLr := SL.out.call HR.out
  by_cases hi0 : i = 0
  case pos =>
   subst hi0
   obtain ⟨_, _, he, _, _, _, hx⟩ := SLr
   injection he with e1 e2 e3
   subst e1 e3
   obtain ⟨b, o, rfl, hb, hc⟩ := hx (by omega)
   obtain ⟨_, _, he, _, _, _, hx'⟩ := S3r
   injection he with e1 e2 e3
   subst e1 e3
   obtain ⟨b', o', rfl, hb', hc'⟩ := hx' (by omega)
   have x0 : wr.cell? ⟨b, o, none⟩ = some (.int .i64 0) := hc 0 _ rfl
   have x1 : wr.cell? ⟨b', o', none⟩ = some (.bool true) := hc' 0 _ rfl
   have x2 : wr.cell? ⟨b', o' + 1, none⟩ = some (.int .u64 4) := hc' 1 _ rfl
   have x3 := D2r.out.cell 5
   have SZ : w1.heap.size ≤ wr.heap.size := HR.out.size
   clear hx hx' hc hc' hb hb'
   go_wp2_with (at_builtin; refine wl_app1 rfl _ _ Tus rfl (news := [.int .u64 4]) rfl HO.out rfl rfl (us_one [4]) (by omega) SZ ?_)
   intro v3 w3 hO3 hB3
   have HO3 : Hid (w3.ownsRow w1.heap.size 40 1 v3 1 (us (([4, 6] : List Nat).take 1))) := hid hO3
   have HB3 : Hid (Below w1.heap.size w1 w3) := hid (HR.out.trans hB3)
   clear hO3 hB3 SZ x0 x1 x2 x3
   go_wp2
   go_roundw
   case rel => exact ⟨1, _, rfl, rfl, by omega, HO3, HB3⟩
   case measure => simp [intOf]
  case neg =>
   by_cases hi1 : i = 1
   case pos =>
    subst hi1
    obtain ⟨_, _, he, _, _, _, hx⟩ := SLr
    injection he with e1 e2 e3
    subst e1 e3
    obtain ⟨b, o, rfl, hb, hc⟩ := hx (by omega)
    obtain ⟨_, _, he, _, _, _, hx'⟩ := S3r
    injection he with e1 e2 e3
    subst e1 e3
    obtain ⟨b', o', rfl, hb', hc'⟩ := hx' (by omega)
    have x0 : wr.cell? ⟨b, o + 1, none⟩ = some (.int .i64 1) := hc 1 _ rfl
    have x1 : wr.cell? ⟨b', o' + 2, none⟩ = some (.bool true) := hc' 2 _ rfl
    have x2 : wr.cell? ⟨b', o' + 3, none⟩ = some (.int .u64 6) := hc' 3 _ rfl
    have x3 := D2r.out.cell 5
    have SZ : w1.heap.size ≤ wr.heap.size := HR.out.size
    clear hx hx' hc hc' hb hb'
    go_wp2_with (at_builtin; refine wl_app1 rfl _ _ Tus rfl (news := [.int .u64 6]) rfl HO.out rfl rfl (us_one [6]) (by omega) SZ ?_)
    intro v3 w3 hO3 hB3
    have HO3 : Hid (w3.ownsRow w1.heap.size 40 1 v3 2 (us (([4, 6] : List Nat).take 2))) := hid hO3
    have HB3 : Hid (Below w1.heap.size w1 w3) := hid (HR.out.trans hB3)
    clear hO3 hB3 SZ x0 x1 x2 x3
    go_wp2
    go_roundw
    case rel => exact ⟨2, _, rfl, rfl, by omega, HO3, HB3⟩
    case measure => simp [intOf]
   case neg =>
    obtain rfl : i = 2 := by omega
    obtain ⟨Ao, no, co, rfl⟩ := aown_lit HO.out
    have hno : no = 2 := by have := (Sl.of_own HO.out); obtain ⟨_, _, he, _⟩ := this; injection he
    subst hno
    have SO : Hid (Sl wr wr.heap.size 1 (.slice Ao 2 co) 2 (us [4, 6])) := hid (Sl.of_own HO.out)
    go_wp2_with fail
    refine (sort_2 SO.out).mono ?_; rintro e w5 ⟨rfl, hq⟩
    have HB5 := hid (Bl.qt (Bl.call HB.out HR.out) hq)
    clear hq
    go_wp2
    go_ret
    exact ⟨Ao, co, rfl, HB5.out⟩
end Go.Proofs.YtahodfikhocobaaGreatDoor
namespace Go.Proofs.YtahodfikhocobaaGreatDoor
open Go.RowKit
set_option linter.unusedVariables false
set_option linter.unusedSimpArgs false
attribute [local go_sem ↓] Go.wp_at_zero Go.wp_at_succ
theorem mA1 : Pt.mayB 3 (frs 2 eA) = true := by decide +kernel
theorem pA1 : Pt.partOf 3 (Pt.uv (frs 2 eA)) = [0, 0, 2] := by decide +kernel
theorem mA2 : Pt.mayB 3 eA = true := by decide +kernel
theorem pA2 : Pt.partOf 3 (Pt.uv eA) = [0, 0, 2] := by decide +kernel
theorem clA : Pt.classL [0, 0, 2] 1 = [0, 1] := by decide +kernel
theorem kept_B {A1 A2 : Option Addr} {c1 c2 : Nat} {w : World} (h : GM w (.slice A1 2 c1) (.slice A2 1 c2) hsA eA) : Calls Tryz.prog 135 #[.agg #[.int .i64 3, .int .i64 2, .int .i64 1, .slice A1 2 c1, .slice A2 1 c2]] w (PartPost [0, 0, 2] w) := kept_A (es := eA) h gpA1 mA1 pA1
theorem exact_B {A1 A2 : Option Addr} {c1 c2 : Nat} {w : World} (h : GM w (.slice A1 2 c1) (.slice A2 1 c2) hsA eA) : Calls Tryz.prog 141 #[.agg #[.int .i64 3, .int .i64 2, .int .i64 1, .slice A1 2 c1, .slice A2 1 c2]] w fun e w' => e = .returned (.bool true) ∧ Below w.heap.size w w' := exact_A (es := eA) h gpA1 rfl mA1 pA1 mA2 pA2
theorem class_B {A : Option Addr} {c : Nat} {w : World} (h : Sl w w.heap.size 1 (.slice A 3 c) 3 (ints [0, 0, 2])) : Calls Tryz.prog 72 #[.slice A 3 c, .int .i64 1] w fun e w' => ∃ A' c', e = .returned (.slice A' 2 c') ∧ Sl w' w'.heap.size 1 (.slice A' 2 c') 2 (ints [0, 1]) ∧ Below w.heap.size w w' := by
 refine (class_any _ _ _ _ _ _ h (Nat.le_refl _) (by omega)).mono ?_
 rintro e w' ⟨v', rfl, ho, hb⟩
 rw [clA] at ho
 have hs := Sl.of_own ho
 obtain ⟨A, c, rfl, _⟩ := id hs
 exact ⟨A, c, rfl, hs, hb⟩
def AnsPost (T : TypeId) (v : Value) (w : World) (e : Ending) (w' : World) : Prop := e = .returned (.iface T v) ∧ Below w.heap.size w w'
variable {A1 A2 A3 : Option Addr} {c1 c2 c3 : Nat} {w : World}
set_option maxHeartbeats 16000000 in
set_option maxRecDepth 100000 in
theorem ans_conn1 (hm : SM w (.slice A1 2 c1) (.slice A2 1 c2) (.slice A3 3 c3) eA sA3) : Calls Tryz.prog 117 #[.agg #[.int .i64 3, .int .i64 2, .int .i64 1, .slice A1 2 c1, .slice A2 1 c2, .slice A3 3 c3], .int .i64 8, .int .i64 0, .int .i64 1] w (AnsPost 4 (.bool true) w) := by
 have SM_ := hid hm
 clear hm
 obtain ⟨w1, hw1⟩ : ∃ W, W = w.alloc (.cells #[.int .i64 3, .int .i64 2, .int .i64 1, .slice A1 2 c1, .slice A2 1 c2, .slice A3 3 c3] 85) := ⟨_, rfl⟩
 obtain ⟨K4, hK4⟩ : ∃ K, K = w.heap.size := ⟨_, rfl⟩
 have zw1 : w1.heap.size = K4 + 1 := by rw [hw1, hK4]; simp
 have D_K4 : Hid (Blk w1 K4 85 [.int .i64 3, .int .i64 2, .int .i64 1, .slice A1 2 c1, .slice A2 1 c2, .slice A3 3 c3]) := hid (by rw [hK4]; rw [hw1]; exact Blk.new _ _ _)
 have LO_K4 : Hid (w.heap.size ≤ K4) := hid (by omega)
 have HB : Hid (Below w.heap.size w w1) := hid (by rw [hw1]; exact bel_new _ _)
 replace SM_ := hid (SM_.out.call HB.out)
 have HW_w1 := hid hw1
 have HK_K4 := hid hK4
 clear hw1 hK4 zw1
 go_enter Tryz.func117, Tryz.ntmps117
 go_upto_region 1 with (fail)
 rw [← HW_w1.out, ← HK_K4.out]
 have cK40 := D_K4.out.cell 0
 have cK41 := D_K4.out.cell 1
 have cK42 := D_K4.out.cell 2
 have cK43 := D_K4.out.cell 3
 have cK44 := D_K4.out.cell 4
 have cK45 := D_K4.out.cell 5
 go_wp2_with fail
 have HBk := hid HB.out.size
 refine (kept_B SM_.out.gm).mono ?_; rintro e w2 ⟨Ak, ck, rfl, SK_, b_⟩
 clear cK40 cK41 cK42 cK43 cK44 cK45
 replace D_K4 := hid (D_K4.out.on b_)
 replace SM_ := hid (SM_.out.call b_)
 replace HB := hid (Bl.call HB.out b_)
 have SK := hid SK_
 clear SK_
 clear b_
 obtain ⟨_, _, he, _, _, _, hx⟩ := SK.out
 injection he with e1 e2 e3
 subst e1 e3
 obtain ⟨b, o, rfl, hb, hc⟩ := hx (by omega)
 have x0 : w2.cell? ⟨b, o, none⟩ = some (.int .i64 0) := hc 0 _ rfl
 have x1 : w2.cell? ⟨b, o + 1, none⟩ = some (.int .i64 0) := hc 1 _ rfl
 clear hx hc hb
 go_wp2_with fail
 go_quiet (fail)
 go_wp2
 go_ret
 exact ⟨rfl, Bl.qt HB.out (qt_of _ _)⟩
set_option maxHeartbeats 16000000 in
set_option maxRecDepth 100000 in
theorem ans_conn2 (hm : SM w (.slice A1 2 c1) (.slice A2 1 c2) (.slice A3 3 c3) eA sA3) : Calls Tryz.prog 117 #[.agg #[.int .i64 3, .int .i64 2, .int .i64 1, .slice A1 2 c1, .slice A2 1 c2, .slice A3 3 c3], .int .i64 8, .int .i64 0, .int .i64 2] w (AnsPost 4 (.bool false) w) := by
 have SM_ := hid hm
 clear hm
 obtain ⟨w1, hw1⟩ : ∃ W, W = w.alloc (.cells #[.int .i64 3, .int .i64 2, .int .i64 1, .slice A1 2 c1, .slice A2 1 c2, .slice A3 3 c3] 85) := ⟨_, rfl⟩
 obtain ⟨K4, hK4⟩ : ∃ K, K = w.heap.size := ⟨_, rfl⟩
 have zw1 : w1.heap.size = K4 + 1 := by rw [hw1, hK4]; simp
 have D_K4 : Hid (Blk w1 K4 85 [.int .i64 3, .int .i64 2, .int .i64 1, .slice A1 2 c1, .slice A2 1 c2, .slice A3 3 c3]) := hid (by rw [hK4]; rw [hw1]; exact Blk.new _ _ _)
 have LO_K4 : Hid (w.heap.size ≤ K4) := hid (by omega)
 have HB : Hid (Below w.heap.size w w1) := hid (by rw [hw1]; exact bel_new _ _)
 replace SM_ := hid (SM_.out.call HB.out)
 have HW_w1 := hid hw1
 have HK_K4 := hid hK4
 clear hw1 hK4 zw1
 go_enter Tryz.func117, Tryz.ntmps117
 go_upto_region 1 with (fail)
 rw [← HW_w1.out, ← HK_K4.out]
 have cK40 := D_K4.out.cell 0
 have cK41 := D_K4.out.cell 1
 have cK42 := D_K4.out.cell 2
 have cK43 := D_K4.out.cell 3
 have cK44 := D_K4.out.cell 4
 have cK45 := D_K4.out.cell 5
 go_wp2_with fail
 have HBk := hid HB.out.size
 refine (kept_B SM_.out.gm).mono ?_; rintro e w2 ⟨Ak, ck, rfl, SK_, b_⟩
 clear cK40 cK41 cK42 cK43 cK44 cK45
 replace D_K4 := hid (D_K4.out.on b_)
 replace SM_ := hid (SM_.out.call b_)
 replace HB := hid (Bl.call HB.out b_)
 have SK := hid SK_
 clear SK_
 clear b_
 obtain ⟨_, _, he, _, _, _, hx⟩ := SK.out
 injection he with e1 e2 e3
 subst e1 e3
 obtain ⟨b, o, rfl, hb, hc⟩ := hx (by omega)
 have x0 : w2.cell? ⟨b, o, none⟩ = some (.int .i64 0) := hc 0 _ rfl
 have x1 : w2.cell? ⟨b, o + 2, none⟩ = some (.int .i64 2) := hc 2 _ rfl
 clear hx hc hb
 go_wp2_with fail
 go_quiet (fail)
 go_wp2
 go_ret
 exact ⟨rfl, Bl.qt HB.out (qt_of _ _)⟩
set_option maxHeartbeats 16000000 in
set_option maxRecDepth 100000 in
theorem ans_audit (hm : SM w (.slice A1 2 c1) (.slice A2 1 c2) (.slice A3 3 c3) eA sA3) : Calls Tryz.prog 117 #[.agg #[.int .i64 3, .int .i64 2, .int .i64 1, .slice A1 2 c1, .slice A2 1 c2, .slice A3 3 c3], .int .i64 13, .int .i64 0, .int .i64 0] w (AnsPost 4 (.bool true) w) := by
 have SM_ := hid hm
 clear hm
 obtain ⟨w1, hw1⟩ : ∃ W, W = w.alloc (.cells #[.int .i64 3, .int .i64 2, .int .i64 1, .slice A1 2 c1, .slice A2 1 c2, .slice A3 3 c3] 85) := ⟨_, rfl⟩
 obtain ⟨K4, hK4⟩ : ∃ K, K = w.heap.size := ⟨_, rfl⟩
 have zw1 : w1.heap.size = K4 + 1 := by rw [hw1, hK4]; simp
 have D_K4 : Hid (Blk w1 K4 85 [.int .i64 3, .int .i64 2, .int .i64 1, .slice A1 2 c1, .slice A2 1 c2, .slice A3 3 c3]) := hid (by rw [hK4]; rw [hw1]; exact Blk.new _ _ _)
 have LO_K4 : Hid (w.heap.size ≤ K4) := hid (by omega)
 have HB : Hid (Below w.heap.size w w1) := hid (by rw [hw1]; exact bel_new _ _)
 replace SM_ := hid (SM_.out.call HB.out)
 have HW_w1 := hid hw1
 have HK_K4 := hid hK4
 clear hw1 hK4 zw1
 go_enter Tryz.func117, Tryz.ntmps117
 go_upto_region 1 with (fail)
 rw [← HW_w1.out, ← HK_K4.out]
 have cK40 := D_K4.out.cell 0
 have cK41 := D_K4.out.cell 1
 have cK42 := D_K4.out.cell 2
 have cK43 := D_K4.out.cell 3
 have cK44 := D_K4.out.cell 4
 have cK45 := D_K4.out.cell 5
 go_wp2_with fail
 have HBk := hid HB.out.size
 refine (kept_B SM_.out.gm).mono ?_; rintro e w2 ⟨Ak, ck, rfl, SK_, b_⟩
 clear cK40 cK41 cK42 cK43 cK44 cK45
 replace D_K4 := hid (D_K4.out.on b_)
 replace SM_ := hid (SM_.out.call b_)
 replace HB := hid (Bl.call HB.out b_)
 have SK := hid SK_
 clear SK_
 clear b_
 have cK40 := D_K4.out.cell 0
 have cK41 := D_K4.out.cell 1
 have cK42 := D_K4.out.cell 2
 have cK43 := D_K4.out.cell 3
 have cK44 := D_K4.out.cell 4
 have cK45 := D_K4.out.cell 5
 go_wp2_with fail
 replace HBk := hid HB.out.size
 refine (exact_B SM_.out.gm).mono ?_; rintro e w3 ⟨rfl, b_⟩
 clear cK40 cK41 cK42 cK43 cK44 cK45
 replace D_K4 := hid (D_K4.out.on b_)
 replace SM_ := hid (SM_.out.call b_)
 replace SK := hid (SK.out.call b_)
 replace HB := hid (Bl.call HB.out b_)
 clear b_
 go_wp2
 go_ret
 exact ⟨rfl, HB.out⟩
set_option maxHeartbeats 16000000 in
set_option maxRecDepth 100000 in
theorem ans_size (hm : SM w (.slice A1 2 c1) (.slice A2 1 c2) (.slice A3 3 c3) eA sA3) : Calls Tryz.prog 117 #[.agg #[.int .i64 3, .int .i64 2, .int .i64 1, .slice A1 2 c1, .slice A2 1 c2, .slice A3 3 c3], .int .i64 9, .int .i64 1, .int .i64 0] w (AnsPost 3 (.int .i64 2) w) := by
 have SM_ := hid hm
 clear hm
 obtain ⟨w1, hw1⟩ : ∃ W, W = w.alloc (.cells #[.int .i64 3, .int .i64 2, .int .i64 1, .slice A1 2 c1, .slice A2 1 c2, .slice A3 3 c3] 85) := ⟨_, rfl⟩
 obtain ⟨K4, hK4⟩ : ∃ K, K = w.heap.size := ⟨_, rfl⟩
 have zw1 : w1.heap.size = K4 + 1 := by rw [hw1, hK4]; simp
 have D_K4 : Hid (Blk w1 K4 85 [.int .i64 3, .int .i64 2, .int .i64 1, .slice A1 2 c1, .slice A2 1 c2, .slice A3 3 c3]) := hid (by rw [hK4]; rw [hw1]; exact Blk.new _ _ _)
 have LO_K4 : Hid (w.heap.size ≤ K4) := hid (by omega)
 have HB : Hid (Below w.heap.size w w1) := hid (by rw [hw1]; exact bel_new _ _)
 replace SM_ := hid (SM_.out.call HB.out)
 have HW_w1 := hid hw1
 have HK_K4 := hid hK4
 clear hw1 hK4 zw1
 go_enter Tryz.func117, Tryz.ntmps117
 go_upto_region 1 with (fail)
 rw [← HW_w1.out, ← HK_K4.out]
 have cK40 := D_K4.out.cell 0
 have cK41 := D_K4.out.cell 1
 have cK42 := D_K4.out.cell 2
 have cK43 := D_K4.out.cell 3
 have cK44 := D_K4.out.cell 4
 have cK45 := D_K4.out.cell 5
 go_wp2_with fail
 have HBk := hid HB.out.size
 refine (kept_B SM_.out.gm).mono ?_; rintro e w2 ⟨Ak, ck, rfl, SK_, b_⟩
 clear cK40 cK41 cK42 cK43 cK44 cK45
 replace D_K4 := hid (D_K4.out.on b_)
 replace SM_ := hid (SM_.out.call b_)
 replace HB := hid (Bl.call HB.out b_)
 have SK := hid SK_
 clear SK_
 clear b_
 have cK40 := D_K4.out.cell 0
 have cK41 := D_K4.out.cell 1
 have cK42 := D_K4.out.cell 2
 have cK43 := D_K4.out.cell 3
 have cK44 := D_K4.out.cell 4
 have cK45 := D_K4.out.cell 5
 have S3 := hid SM_.out.ss
 go_upto_region 13 with (fail)
 go_region_held3 (fun w' => w'.cell? ⟨K4, 0, none⟩ = some (.int .i64 3) ∧ w'.cell? ⟨K4, 1, none⟩ = some (.int .i64 2) ∧ w'.cell? ⟨K4, 2, none⟩ = some (.int .i64 1) ∧ w'.cell? ⟨K4, 3, none⟩ = some (.slice A1 2 c1) ∧ w'.cell? ⟨K4, 4, none⟩ = some (.slice A2 1 c2) ∧ w'.cell? ⟨K4, 5, none⟩ = some (.slice A3 3 c3))
  (first | go_keep | (go_split_ands; and_intros <;> (first | (refine cell_later (by assumption) ?_; first | assumption | (rw [Qt.cell (qt_of _ _)]; assumption) | (rw [Qt.cell (qt_drew _)]; assumption)) | (refine cell_later (bel_new _ _) ?_; assumption) | (rw [Qt.cell (by assumption)]; first | assumption | (rw [Qt.cell (qt_of _ _)]; assumption) | (rw [Qt.cell (qt_drew _)]; assumption)))))
  (first | (go_at_call 72; (with_reducible refine (class_B (by repeat (first | exact SK.out | refine Sl.new ?_ _ | refine Sl.cqt ?_ (qt_drew _) | refine Sl.cqt ?_ (qt_of _ _) | refine Sl.call ?_ (by assumption) | refine Sl.cqt ?_ (by assumption)))).mono ?_); rintro e wz ⟨Ac, cc, rfl, sc, bc⟩) | (go_at_call 137; (with_reducible refine (keys_A (by repeat (first | exact S3.out | refine Sl.new ?_ _ | refine Sl.cqt ?_ (qt_drew _) | refine Sl.cqt ?_ (qt_of _ _) | refine Sl.call ?_ (by assumption) | refine Sl.cqt ?_ (by assumption))) sc).mono ?_); rintro e wz ⟨Ay, cy, rfl, by_⟩))
 all_goals
  have HBZ := hid (Bl.call HB.out (show Below w2.heap.size w2 wz by repeat (first | exact Below.refl _ _ | refine Bl.call ?_ (by assumption) | refine Bl.qt ?_ (by assumption) | refine Bl.qt ?_ (qt_drew _))))
  clear cK40 cK41 cK42 cK43 cK44 cK45
  go_wp2_with fail
  go_ret
  exact ⟨rfl, HBZ.out⟩
end Go.Proofs.YtahodfikhocobaaGreatDoor
namespace Go.Proofs.YtahodfikhocobaaGreatDoor
open Go.RowKit
set_option linter.unusedVariables false
set_option linter.unusedSimpArgs false
attribute [local go_sem ↓] Go.wp_at_zero Go.wp_at_succ
def TellPost (s : ByteArray) (w : World) (e : Ending) (w' : World) : Prop := e = .returned (.string s) ∧ w = w'
theorem ta_ee (v : Value) (xT : TypeId) (w : World) : (Instr.typeAssert (.iface 48 v) xT 48 true).run Tryz.prog w = .ok (.tuple #[v, .bool true]) w := by
 simp [Instr.typeAssert, run_underlying Tryz.underlying48]
theorem ta_bb (v : Value) (xT : TypeId) (w : World) : (Instr.typeAssert (.iface 4 v) xT 4 true).run Tryz.prog w = .ok (.tuple #[v, .bool true]) w := by
 simp [Instr.typeAssert, run_underlying Tryz.underlying4]
theorem ta_ii (v : Value) (xT : TypeId) (w : World) : (Instr.typeAssert (.iface 3 v) xT 3 true).run Tryz.prog w = .ok (.tuple #[v, .bool true]) w := by
 simp [Instr.typeAssert, run_underlying Tryz.underlying3]
theorem ta_eb (v : Value) (xT : TypeId) (w : World) : (Instr.typeAssert (.iface 4 v) xT 48 true).run Tryz.prog w = .ok (.tuple #[.int .i64 0, .bool false]) w := by
 have hz : (Tryz.prog.info? 48).map (·.zero) = some (some (.int .i64 0)) := by kernel_rfl
 obtain ⟨i, hi, hz⟩ := Option.map_eq_some_iff.1 hz
 simp [Instr.typeAssert, run_underlying Tryz.underlying48, zeroValue, typeInfo, hi, hz]
theorem ta_ei (v : Value) (xT : TypeId) (w : World) : (Instr.typeAssert (.iface 3 v) xT 48 true).run Tryz.prog w = .ok (.tuple #[.int .i64 0, .bool false]) w := by
 have hz : (Tryz.prog.info? 48).map (·.zero) = some (some (.int .i64 0)) := by kernel_rfl
 obtain ⟨i, hi, hz⟩ := Option.map_eq_some_iff.1 hz
 simp [Instr.typeAssert, run_underlying Tryz.underlying48, zeroValue, typeInfo, hi, hz]
theorem ta_bi (v : Value) (xT : TypeId) (w : World) : (Instr.typeAssert (.iface 3 v) xT 4 true).run Tryz.prog w = .ok (.tuple #[.bool false, .bool false]) w := by
 have hz : (Tryz.prog.info? 4).map (·.zero) = some (some (.bool false)) := by kernel_rfl
 obtain ⟨i, hi, hz⟩ := Option.map_eq_some_iff.1 hz
 simp [Instr.typeAssert, run_underlying Tryz.underlying4, zeroValue, typeInfo, hi, hz]
set_option maxRecDepth 100000 in
theorem tell_ok (w : World) : Calls Tryz.prog 37 #[.iface 48 (.int .i64 0)] w (TellPost ⟨#[111, 107]⟩ w) := by
 have h0 := fun v xT w => ta_ee v xT w
 go_enter Tryz.func37, Tryz.ntmps37
 go_wp2
 go_ret
 exact ⟨rfl, rfl⟩
set_option maxRecDepth 100000 in
theorem tell_yes (w : World) : Calls Tryz.prog 37 #[.iface 4 (.bool true)] w (TellPost ⟨#[121, 101, 115]⟩ w) := by
 have h0 := fun v xT w => ta_eb v xT w
 have h1 := fun v xT w => ta_bb v xT w
 go_enter Tryz.func37, Tryz.ntmps37
 go_wp2
 go_ret
 exact ⟨rfl, rfl⟩
set_option maxRecDepth 100000 in
theorem tell_no (w : World) : Calls Tryz.prog 37 #[.iface 4 (.bool false)] w (TellPost ⟨#[110, 111]⟩ w) := by
 have h0 := fun v xT w => ta_eb v xT w
 have h1 := fun v xT w => ta_bb v xT w
 go_enter Tryz.func37, Tryz.ntmps37
 go_wp2
 go_ret
 exact ⟨rfl, rfl⟩
theorem small_2 (w : World) : Calls Tryz.prog 108 #[.int .i64 2] w (TellPost ⟨#[50]⟩ w) := by
 go_enter Tryz.func108, Tryz.ntmps108
 go_wp2
 go_ret
 exact ⟨rfl, rfl⟩
theorem fint_2 (w : World) : Calls Tryz.prog 86 #[.int .i64 2, .int .i64 10] w (TellPost ⟨#[50]⟩ w) := by
 go_enter Tryz.func86, Tryz.ntmps86
 go_wp2_with (go_at_call 108; refine (small_2 _).mono ?_; rintro e _ ⟨rfl, rfl⟩)
 go_ret
 exact ⟨rfl, rfl⟩
theorem iitoa_2 (w : World) : Calls Tryz.prog 62 #[.int .i64 2] w (TellPost ⟨#[50]⟩ w) := by
 go_enter Tryz.func62, Tryz.ntmps62
 go_wp2_with (go_at_call 86; refine (fint_2 _).mono ?_; rintro e _ ⟨rfl, rfl⟩)
 go_ret
 exact ⟨rfl, rfl⟩
theorem itoa_2 (w : World) : Calls Tryz.prog 38 #[.int .i64 2] w (TellPost ⟨#[50]⟩ w) := by
 go_enter Tryz.func38, Tryz.ntmps38
 go_wp2_with (go_at_call 62; refine (iitoa_2 _).mono ?_; rintro e _ ⟨rfl, rfl⟩)
 go_ret
 exact ⟨rfl, rfl⟩
set_option maxRecDepth 100000 in
theorem tell_2 (w : World) : Calls Tryz.prog 37 #[.iface 3 (.int .i64 2)] w (TellPost ⟨#[50]⟩ w) := by
 have h0 := fun v xT w => ta_ei v xT w
 have h1 := fun v xT w => ta_bi v xT w
 have h2 := fun v xT w => ta_ii v xT w
 go_enter Tryz.func37, Tryz.ntmps37
 go_wp2_with (go_at_call 38; refine (itoa_2 _).mono ?_; rintro e _ ⟨rfl, rfl⟩)
 go_ret
 exact ⟨rfl, rfl⟩
end Go.Proofs.YtahodfikhocobaaGreatDoor
