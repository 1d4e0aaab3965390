/- Contracts of math/bits.Mul64, Div64 and Rem64 at P; of mod.Mul. -/
import Derived.Test.YtbafbnkmmpaomaaModA
import Derived.Shelf.Bits.Mul64
import Derived.Deep.DeepCutAuto
import Derived.Deep.CutBlock
namespace Go.Proofs.Ytbafbnkmmpaomaa
open Go.RowKit
set_option linter.unusedVariables false

set_option maxRecDepth 100000 in
set_option maxHeartbeats 1000000 in
theorem mul64_any (x y : Nat) (hx : x < 18446744073709551616) (hy : y < 18446744073709551616) (w : World) :
    Calls Try.prog 39 #[.int .u64 x, .int .u64 y] w fun e w' => e = .returned (.tuple #[.int .u64 ((x * y / 18446744073709551616 : Nat) : Int), .int .u64 ((x * y % 18446744073709551616 : Nat) : Int)]) ∧ w = w' := by
  obtain ⟨bd, bt, bw, hhi⟩ := Lib.mul64_hi x y hx hy
  have ba := Lib.half_mul_le (a := x / 4294967296) (b := y / 4294967296) (by omega) (by omega)
  have bb := Lib.half_mul_le (a := x / 4294967296) (b := y % 4294967296) (by omega) (by omega)
  have bc := Lib.half_mul_le (a := x % 4294967296) (b := y / 4294967296) (by omega) (by omega)
  have ba' : x / 4294967296 * (y / 4294967296) < 18446744073709551616 := by omega
  have bb' : x / 4294967296 * (y % 4294967296) < 18446744073709551616 := by omega
  have bc' : x % 4294967296 * (y / 4294967296) < 18446744073709551616 := by omega
  have bh1 : x / 4294967296 * (y / 4294967296) + (x / 4294967296 * (y % 4294967296) + x % 4294967296 * (y % 4294967296) / 4294967296) / 4294967296 < 18446744073709551616 := by omega
  have bh : x / 4294967296 * (y / 4294967296) + (x / 4294967296 * (y % 4294967296) + x % 4294967296 * (y % 4294967296) / 4294967296) / 4294967296 + ((x / 4294967296 * (y % 4294967296) + x % 4294967296 * (y % 4294967296) / 4294967296) % 4294967296 + x % 4294967296 * (y / 4294967296)) / 4294967296 < 18446744073709551616 := by omega
  go_enter Try.func39, Try.ntmps39
  go_wp2
  simp only [Mul64.maskN x hx, Mul64.maskN y hy, Mul64.divN, Mul64.mulN, Mul64.addN, Mul64.wrapN _ bd, Mul64.wrapN _ bb', Mul64.wrapN _ bt, Mul64.maskN _ bt, Mul64.wrapN _ bc', Mul64.wrapN _ bw, Mul64.wrapN _ ba', Mul64.wrapN _ bh1, Mul64.wrapN _ bh, Mul64.wrapM (x * y)]
  rw [hhi]
  go_ret2
  exact ⟨rfl, rfl⟩

set_option maxRecDepth 100000 in
theorem len64_P (w : World) : Calls Try.prog 72 #[.int .u64 2305843009213693951] w fun e w' => e = .returned (.int .i64 61) ∧ w = w' := by
  go_enter Try.func72, Try.ntmps72
  go_wp2
  go_ret
  exact ⟨ret_int (by decide +kernel), rfl⟩
theorem lz64_P (w : World) : Calls Try.prog 62 #[.int .u64 2305843009213693951] w fun e w' => e = .returned (.int .i64 3) ∧ w = w' := by
  go_enter Try.func62, Try.ntmps62
  go_wp2_with fail
  refine (len64_P _).mono ?_; rintro e w' ⟨rfl, rfl⟩
  go_wp2
  go_ret
  exact ⟨rfl, rfl⟩

def DivPost (hi lo : Nat) (w : World) (e : Ending) (w' : World) : Prop := ∃ q : Int, e = .returned (.tuple #[.int .u64 q, .int .u64 (((hi * 18446744073709551616 + lo) % 2305843009213693951 : Nat) : Int)]) ∧ ∃ j, w' = w.drewN j
theorem div64_low (lo : Nat) (hl : lo < 18446744073709551616) (w : World) :
    Calls Try.prog 52 #[.int .u64 0, .int .u64 (lo : Int), .int .u64 2305843009213693951] w (DivPost 0 lo w) := by
  go_enter Try.func52, Try.ntmps52
  go_wp2_with fail
  go_quiet (fail)
  go_wp2
  go_ret2
  exact ⟨_, by simp; rfl, _, rfl⟩
theorem ret_tup {q a b : Int} (h : a = b) : Ending.returned (.tuple #[.int .u64 q, .int .u64 a]) = .returned (.tuple #[.int .u64 q, .int .u64 b]) := by rw [h]
theorem step_wrap (u v q : Nat) (hu : u < 18446744073709551608) (hv : v < 4294967296) (hq : q = (u * 4294967296 + v) / 18446744073709551608) :
    IntKind.u64.wrap (IntKind.u64.wrap (IntKind.u64.wrap ((u : Int) * 4294967296) + (v : Int)) - IntKind.u64.wrap ((q : Int) * 18446744073709551608)) = (((u * 4294967296 + v) % 18446744073709551608 : Nat) : Int) := by
  rw [IntKind.wrap_u64, IntKind.wrap_u64, IntKind.wrap_u64, IntKind.wrap_u64]
  subst hq
  omega
theorem or_hl (hi lo : Nat) (hh : hi < 2305843009213693951) (hl : lo < 18446744073709551616) : bits .or .u64 ((hi : Int) * 8) ((lo : Int) / 2305843009213693952) = ((hi * 8 + lo / 2305843009213693952 : Nat) : Int) := by
  have h := bits_or_u64_nat (hi * 8) (lo / 2305843009213693952) (by omega) (by omega)
  have e : hi * 8 ||| lo / 2305843009213693952 = hi * 8 + lo / 2305843009213693952 := by
    have := Nat.shiftLeft_add_eq_or_of_lt (a := hi) (b := lo / 2305843009213693952) (i := 3) (by omega)
    rw [Nat.shiftLeft_eq] at this
    exact this.symm
  rw [e] at h
  exact h
theorem wrapN8 (lo : Nat) : IntKind.u64.wrap ((lo : Int) * 8) = ((lo * 8 % 18446744073709551616 : Nat) : Int) := by rw [IntKind.wrap_u64]; omega
theorem and_y : bits .and .u64 18446744073709551608 4294967295 = 4294967288 := by decide +kernel
open Md in
set_option maxRecDepth 100000 in
theorem div64_high (hi lo : Nat) (h0 : 0 < hi) (hh : hi < 2305843009213693951) (hl : lo < 18446744073709551616) (w : World) :
    Calls Try.prog 52 #[.int .u64 (hi : Int), .int .u64 (lo : Int), .int .u64 2305843009213693951] w (DivPost hi lo w) := by
  have e0 : ((hi : Int) == 0) = false := by simp; omega
  have e1 : ¬ (2305843009213693951 : Int) ≤ (hi : Int) := by omega
  have a1 := and_y
  go_enter Try.func52, Try.ntmps52
  go_wp2_with fail
  refine (lz64_P _).mono ?_; rintro e w' ⟨rfl, rfl⟩
  go_upto_region 15 with (fail)
  simp only [or_hl hi lo hh hl, wrapN8 lo, Mul64.divN]
  rw [Mul64.maskN _ (Nat.mod_lt _ (by omega))]
  obtain ⟨u, hu⟩ : ∃ u, u = hi * 8 + lo / 2305843009213693952 := ⟨_, rfl⟩
  obtain ⟨u1, h1⟩ : ∃ u1, u1 = lo * 8 % 18446744073709551616 / 4294967296 := ⟨_, rfl⟩
  obtain ⟨u0, h0'⟩ : ∃ u0, u0 = lo * 8 % 18446744073709551616 % 4294967296 := ⟨_, rfl⟩
  rw [← hu, ← h1, ← h0']
  have bu : u < 18446744073709551608 := by omega
  have bu' : u ≤ 18446744073709551607 := by omega
  have b1 : u1 < 4294967296 := by omega
  have b0 : u0 < 4294967296 := by omega
  have HU := hid hu
  have H1 := hid h1
  have H0 := hid h0'
  clear hu h1 h0' a1
  have st := qr_start u u1 bu b1
  go_upto_block 0 with (fail)
  obtain ⟨Q, hQ⟩ : ∃ Q, Q = (u * 4294967296 + u1) / 18446744073709551608 := ⟨_, rfl⟩
  have HQ := hid hQ
  clear hQ
  go_cut [15, 16] (fun s15 s16 wx => s15 = .int .u64 (Q : Int) ∧ w = wx)
  case first =>
    go_wp2_with fail
    go_loop [15, 16] (fun q r => ∃ q1 r1 : Nat, q = .int .u64 (q1 : Int) ∧ r = .int .u64 (r1 : Int) ∧ QR u u1 q1 r1 ∧ r1 < 4294967296) (fun q r => (intOf q).toNat)
    case atStart => exact ⟨u / 4294967295, u - u / 4294967295 * 4294967295, rfl, by go_num, st, by omega⟩
    case round =>
      obtain ⟨q1, r1, rfl, rfl, hqr, hr⟩ := hrel
      have hq := hqr.2.2
      have HR := hid hqr
      clear hqr st
      by_cases hbig : 4294967296 ≤ q1
      · have hb1 : (4294967296 : Int) ≤ (q1 : Int) := by omega
        obtain ⟨hp, hd⟩ := qr_down bu b1 HR.out (.inl hbig)
        have HD := hid hd
        clear hd
        by_cases hbr : 4294967296 ≤ r1 + 4294967295
        · have hb2 : (4294967296 : Int) ≤ (r1 : Int) + 4294967295 := by omega
          have hf : Hid (q1 - 1 = Q) := hid (by rw [HQ.out]; exact qr_break bu b1 HD.out (by omega) hbr)
          go_wp2_with fail
          go_meet
          exact ⟨by rw [← hf.out]; go_num, rfl⟩
        · have hb2 : ¬ (4294967296 : Int) ≤ (r1 : Int) + 4294967295 := by omega
          go_wp2_with fail
          go_round
          case rel => exact ⟨q1 - 1, r1 + 4294967295, by go_num, by go_num, HD.out, by omega⟩
          case measure => simp [intOf]; omega
      · have hb1 : ¬ (4294967296 : Int) ≤ (q1 : Int) := by omega
        by_cases ht : 4294967296 * r1 + u1 < q1 * 4294967288
        · have ht' : (4294967296 : Int) * (r1 : Int) + (u1 : Int) < (q1 : Int) * 4294967288 := by omega
          obtain ⟨hp, hd⟩ := qr_down bu b1 HR.out (.inr ht)
          have HD := hid hd
          clear hd
          by_cases hbr : 4294967296 ≤ r1 + 4294967295
          · have hb2 : (4294967296 : Int) ≤ (r1 : Int) + 4294967295 := by omega
            have hf : Hid (q1 - 1 = Q) := hid (by rw [HQ.out]; exact qr_break bu b1 HD.out (by omega) hbr)
            go_wp2_with fail
            go_meet
            exact ⟨by rw [← hf.out]; go_num, rfl⟩
          · have hb2 : ¬ (4294967296 : Int) ≤ (r1 : Int) + 4294967295 := by omega
            go_wp2_with fail
            go_round
            case rel => exact ⟨q1 - 1, r1 + 4294967295, by go_num, by go_num, HD.out, by omega⟩
            case measure => simp [intOf]; omega
        · have ht' : ¬ (4294967296 : Int) * (r1 : Int) + (u1 : Int) < (q1 : Int) * 4294967288 := by omega
          have hf : Hid (q1 = Q) := hid (by rw [HQ.out]; exact qr_stop bu b1 HR.out ht)
          go_wp2_with fail
          go_meet
          exact ⟨by rw [hf.out], rfl⟩
  case rest =>
  obtain ⟨rfl, rfl⟩ := hcut
  obtain ⟨v, hv⟩ : ∃ v, v = (u * 4294967296 + u1) % 18446744073709551608 := ⟨_, rfl⟩
  have bv : v < 18446744073709551608 := by omega
  have bv' : v ≤ 18446744073709551607 := by omega
  have HV := hid hv
  clear hv
  go_upto_region 21 with (fail)
  go_cut [17] (fun s17 wx => s17 = .int .u64 (v : Int) ∧ w = wx)
  case first =>
    go_wp2_with fail
    go_meet
    exact ⟨by rw [step_wrap u u1 Q bu b1 HQ.out, ← HV.out], rfl⟩
  case rest =>
  obtain ⟨rfl, rfl⟩ := hcut
  have st := qr_start v u0 bv b0
  obtain ⟨Q2, hQ2⟩ : ∃ Q2, Q2 = (v * 4294967296 + u0) / 18446744073709551608 := ⟨_, rfl⟩
  have HQ2 := hid hQ2
  clear hQ2
  go_upto_block 2 with (fail)
  go_cut [16, 18] (fun s16 s15 wx => s15 = .int .u64 (Q2 : Int) ∧ w = wx)
  case first =>
    go_wp2_with fail
    go_loop [16, 18] (fun r q => ∃ q1 r1 : Nat, q = .int .u64 (q1 : Int) ∧ r = .int .u64 (r1 : Int) ∧ QR v u0 q1 r1 ∧ r1 < 4294967296) (fun r q => (intOf q).toNat)
    case atStart => exact ⟨v / 4294967295, v - v / 4294967295 * 4294967295, rfl, by go_num, st, by omega⟩
    case round =>
      obtain ⟨q1, r1, rfl, rfl, hqr, hr⟩ := hrel
      have hq := hqr.2.2
      have HR := hid hqr
      clear hqr st
      by_cases hbig : 4294967296 ≤ q1
      · have hb1 : (4294967296 : Int) ≤ (q1 : Int) := by omega
        obtain ⟨hp, hd⟩ := qr_down bv b0 HR.out (.inl hbig)
        have HD := hid hd
        clear hd
        by_cases hbr : 4294967296 ≤ r1 + 4294967295
        · have hb2 : (4294967296 : Int) ≤ (r1 : Int) + 4294967295 := by omega
          have hf : Hid (q1 - 1 = Q2) := hid (by rw [HQ2.out]; exact qr_break bv b0 HD.out (by omega) hbr)
          go_wp2_with fail
          go_meet
          exact ⟨by rw [← hf.out]; go_num, rfl⟩
        · have hb2 : ¬ (4294967296 : Int) ≤ (r1 : Int) + 4294967295 := by omega
          go_wp2_with fail
          go_round
          case rel => exact ⟨q1 - 1, r1 + 4294967295, by go_num, by go_num, HD.out, by omega⟩
          case measure => simp [intOf]; omega
      · have hb1 : ¬ (4294967296 : Int) ≤ (q1 : Int) := by omega
        by_cases ht : 4294967296 * r1 + u0 < q1 * 4294967288
        · have ht' : (4294967296 : Int) * (r1 : Int) + (u0 : Int) < (q1 : Int) * 4294967288 := by omega
          obtain ⟨hp, hd⟩ := qr_down bv b0 HR.out (.inr ht)
          have HD := hid hd
          clear hd
          by_cases hbr : 4294967296 ≤ r1 + 4294967295
          · have hb2 : (4294967296 : Int) ≤ (r1 : Int) + 4294967295 := by omega
            have hf : Hid (q1 - 1 = Q2) := hid (by rw [HQ2.out]; exact qr_break bv b0 HD.out (by omega) hbr)
            go_wp2_with fail
            go_meet
            exact ⟨by rw [← hf.out]; go_num, rfl⟩
          · have hb2 : ¬ (4294967296 : Int) ≤ (r1 : Int) + 4294967295 := by omega
            go_wp2_with fail
            go_round
            case rel => exact ⟨q1 - 1, r1 + 4294967295, by go_num, by go_num, HD.out, by omega⟩
            case measure => simp [intOf]; omega
        · have ht' : ¬ (4294967296 : Int) * (r1 : Int) + (u0 : Int) < (q1 : Int) * 4294967288 := by omega
          have hf : Hid (q1 = Q2) := hid (by rw [HQ2.out]; exact qr_stop bv b0 HR.out ht)
          go_wp2_with fail
          go_meet
          exact ⟨by rw [hf.out], rfl⟩
  case rest =>
  obtain ⟨rfl, rfl⟩ := hcut
  go_wp2
  go_ret2
  refine ⟨_, ret_tup ?_, 0, rfl⟩
  rw [step_wrap v u0 Q2 bv b0 HQ2.out]
  have := rem_all hi lo hh hl u _ u1 u0 v _ HU.out rfl H1.out H0.out HV.out rfl
  omega
end Go.Proofs.Ytbafbnkmmpaomaa
