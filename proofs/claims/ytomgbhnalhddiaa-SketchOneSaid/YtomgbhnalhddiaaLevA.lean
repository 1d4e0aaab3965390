/- Contracts of level.Value, level.Bound, level.Deep. -/
import Derived.Test.YtomgbhnalhddiaaModD
import Derived.Test.YtomgbhnalhddiaaSketchPlain
import Derived.Deep.RegionHeld3
import Derived.Deep.DrawnRows
namespace Go.Proofs.Ytomgbhnalhddiaa
open Go.RowKit
set_option linter.unusedVariables false
attribute [local go_sem ↓] Go.wp_at_zero Go.wp_at_succ

theorem zc' {a b : Nat} (h : a = b) : Hid (((a : Nat) : Int) = ((b : Nat) : Int)) := hid (by rw [h])
theorem qt_of (w : World) (n : Nat) : Qt w (w.drewN n) := ⟨n, rfl⟩
theorem qt_drew (w : World) : Qt w w.drew := ⟨1, rfl⟩
/-- A hash as a value. -/
def hashV (h : Nat × Nat) : Value := .agg #[.int .u64 (h.1 : Int), .int .u64 (h.2 : Int)]
def HSmall (h : Nat × Nat) : Prop := h.1 < 18446744073709551616 ∧ h.2 < 18446744073709551616
theorem small_val (h : Nat × Nat) (n : Nat) : Sk.val h n < 18446744073709551616 := small_add _ _

set_option maxRecDepth 100000 in
theorem value_z {x z : Int} {w : World} (h : Nat × Nat) (n : Nat) (hh : HSmall h) (hx : x = (n : Int)) (hn : n < 18446744073709551616) (hz : ((Sk.val h n : Nat) : Int) = z) :
    Calls Try.prog 25 #[hashV h, .int .u64 x] w fun e w' => e = .returned (.int .u64 z) ∧ Below w.heap.size w w' := by
  subst hx hz
  obtain ⟨A, B⟩ := h
  obtain ⟨h1, h2⟩ := hh
  have M : ∀ k, Calls Try.prog 30 #[.int .u64 (A : Int), .int .u64 (n : Int)] ((w.alloc (.cells #[.int .u64 (A : Int), .int .u64 (B : Int)] 46)).drewN k) fun e w'' => e = .returned (.int .u64 ((Md.mul A n : Nat) : Int)) ∧ ∃ m, w'' = (w.alloc (.cells #[.int .u64 (A : Int), .int .u64 (B : Int)] 46)).drewN m :=
    fun k => quiet_qt (modMul_z A n rfl rfl h1 hn rfl)
  have D : ∀ k, Calls Try.prog 29 #[.int .u64 ((Md.mul A n : Nat) : Int), .int .u64 (B : Int)] ((w.alloc (.cells #[.int .u64 (A : Int), .int .u64 (B : Int)] 46)).drewN k) fun e w'' => e = .returned (.int .u64 ((Sk.val (A, B) n : Nat) : Int)) ∧ ∃ m, w'' = (w.alloc (.cells #[.int .u64 (A : Int), .int .u64 (B : Int)] 46)).drewN m :=
    fun k => quiet_eq (modAdd_z (Md.mul A n) B rfl rfl (small_mul _ _) h2 rfl)
  have HM := hid M
  have HD := hid D
  have HB := hid (bel_new w (.cells #[.int .u64 (A : Int), .int .u64 (B : Int)] 46))
  clear M D
  unfold hashV
  go_enter Try.func25, Try.ntmps25
  go_wp2_with fail
  go_quiet (first | (go_at_call 30; with_reducible exact HM.out _) | (go_at_call 29; with_reducible exact HD.out _))
  go_wp2
  go_ret
  exact ⟨rfl, Bl.qt HB.out (qt_of _ _)⟩

theorem shr_bnd (j : Nat) : (2305843009213693951 : Int) / 2 ^ j = ((Sk.bnd j : Nat) : Int) := by
  unfold Sk.bnd; rw [Int.natCast_ediv, Int.natCast_pow]; rfl
theorem bound_in {x z : Int} {w : World} (j : Nat) (hx : x = (j : Int)) (hj : j ≤ 60) (hz : ((Sk.bnd j : Nat) : Int) = z) :
    Calls Try.prog 26 #[.int .i64 x] w fun e w' => e = .returned (.int .u64 z) ∧ w = w' := by
  subst hx hz
  have i0 : ¬ (j : Int) < 0 := by omega
  have i1 : ¬ (61 : Int) ≤ (j : Int) := by omega
  have HS := hid (shr_bnd j)
  go_enter Try.func26, Try.ntmps26
  go_wp2
  go_ret
  refine ⟨ret_int ?_, rfl⟩
  first | exact HS.out | (rw [← HS.out]; rfl) | (rw [← HS.out]; simp)
theorem bound_out {x : Int} {w : World} (hx : x < 0 ∨ 61 ≤ x) :
    Calls Try.prog 26 #[.int .i64 x] w fun e w' => e = .returned (.int .u64 0) ∧ w = w' := by
  by_cases h0 : x < 0
  · go_enter Try.func26, Try.ntmps26
    go_wp2
    go_ret
    exact ⟨rfl, rfl⟩
  · have h1 : (61 : Int) ≤ x := by omega
    clear hx
    go_enter Try.func26, Try.ntmps26
    go_wp2
    go_ret
    exact ⟨rfl, rfl⟩
def DeepPost (x lim : Nat) (w : World) (e : Ending) (w' : World) : Prop := ∃ d : Nat, e = .returned (.int .i64 (d : Int)) ∧ Sk.IsDeep x lim d ∧ Below w.heap.size w w'
set_option maxRecDepth 100000 in
theorem deep_any {x : Int} {w : World} (h : Nat × Nat) (n lim : Nat) (hh : HSmall h) (hx : x = (n : Int)) (hn : n < 18446744073709551616) (hl : lim ≤ 61) :
    Calls Try.prog 20 #[hashV h, .int .u64 x, .int .i64 (lim : Int)] w (DeepPost (Sk.val h n) lim w) := by
  subst hx
  obtain ⟨v, hv⟩ : ∃ v, v = Sk.val h n := ⟨_, rfl⟩
  have EV := zc' hv.symm
  rw [← hv]
  have HB := hid (bel_new w (.cells #[.int .u64 (h.1 : Int), .int .u64 (h.2 : Int)] 46))
  have HV : ∀ w, Calls Try.prog 25 #[.agg #[.int .u64 (h.1 : Int), .int .u64 (h.2 : Int)], .int .u64 (n : Int)] w fun e w' => e = .returned (.int .u64 (v : Int)) ∧ Below w.heap.size w w' :=
    fun w => value_z h n hh rfl hn EV.out
  have HV' := hid HV
  clear HV hv EV hh
  unfold hashV
  obtain ⟨A, B⟩ := h
  dsimp only at *
  go_enter Try.func20, Try.ntmps20
  go_wp2_with fail
  refine (HV'.out _).mono ?_; rintro e w1 ⟨rfl, b1⟩
  have B1 := hid (Bl.call HB.out b1)
  clear b1
  go_wp2_with fail
  go_loop [8] (fun d5 => ∃ d : Nat, d5 = .int .i64 (d : Int) ∧ d ≤ lim ∧ Hid (∀ j, j < d → v < Sk.bnd j)) (fun d5 => lim - (intOf d5).toNat)
  case atStart => exact ⟨0, rfl, Nat.zero_le _, hid (fun j hj => absurd hj (Nat.not_lt_zero _))⟩
  case round =>
    obtain ⟨d, rfl, hd, hall⟩ := hrel
    by_cases hlt : d < lim
    · have i0 : (d : Int) < (lim : Int) := by omega
      have i1 : (lim : Int) ≤ 61 := by omega
      by_cases hb : v < Sk.bnd d
      · have i2 : (v : Int) < (Sk.bnd d : Int) := by omega
        have HN : Hid (∀ j, j < d + 1 → v < Sk.bnd j) := hid fun j hj => by
          rcases Nat.lt_or_ge j d with h | h
          · exact hall.out j h
          · have : j = d := by omega
            rw [this]; exact hb
        clear hb hall
        go_wp2_with fail
        refine (bound_in d rfl (by omega) rfl).mono ?_; rintro e w' ⟨rfl, rfl⟩
        go_wp2_with fail
        go_round
        case rel => exact ⟨d + 1, by go_num, by omega, HN⟩
        case measure => simp [intOf]; omega
      · have i2 : ¬ (v : Int) < (Sk.bnd d : Int) := by omega
        have HF : Hid (Sk.IsDeep v lim d) := hid (Sk.deep_of hd hall.out (fun _ => by omega))
        clear hb hall
        go_wp2_with fail
        refine (bound_in d rfl (by omega) rfl).mono ?_; rintro e w' ⟨rfl, rfl⟩
        go_wp2
        go_ret
        exact ⟨d, rfl, HF.out, B1.out⟩
    · have hdl : d = lim := by omega
      have i0 : ¬ (d : Int) < (lim : Int) := by omega
      have i1 : (lim : Int) ≤ 61 := by omega
      have HF : Hid (Sk.IsDeep v lim d) := hid (Sk.deep_of hd hall.out (fun h => by omega))
      clear hall hdl
      go_wp2
      go_ret
      exact ⟨d, rfl, HF.out, B1.out⟩
end Go.Proofs.Ytomgbhnalhddiaa
