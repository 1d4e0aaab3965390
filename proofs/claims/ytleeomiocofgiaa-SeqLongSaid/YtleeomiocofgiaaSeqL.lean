/- The walk of the law SeqLong. -/
import Derived.Test.YtleeomiocofgiaaSeqJ
import Derived.Test.YtleeomiocofgiaaSeqBal
namespace Go.Proofs.Ytleeomiocofgiaa
open Go.RowKit Sq
set_option linter.unusedVariables false

theorem grow_t (k : Nat) : join (ofL [(k : Int)]) (grow true k) = grow true (k + 1) := rfl
theorem grow_f (k : Nat) : join (grow false k) (ofL [(k : Int)]) = grow false (k + 1) := rfl
theorem first_true (k : Nat) (h : 0 < k) : (ls (grow true k))[(0 : Int).toNat]? = some ((k : Int) - 1) := by
  obtain ⟨m, rfl⟩ : ∃ m, k = m + 1 := ⟨k - 1, by omega⟩
  rw [show (0 : Int).toNat = 0 from rfl, first_f]; congr 1; omega
theorem first_false (k : Nat) (h : 0 < k) : (ls (grow false k))[(0 : Int).toNat]? = some 0 := first_b k h
theorem sz_one (k : Int) : sz (ofL [k]) = 1 := by rw [← len_ls, ls_ofL]; rfl

set_option maxRecDepth 100000 in
set_option maxHeartbeats 4000000 in
theorem seqLong_walk (n : Int) (front : Bool) (w : World) (hn : 0 ≤ n ∧ n ≤ 65535) :
    Calls Try.prog 5 #[.int .u16 n, .bool front] w (IsTrue w) := by
  obtain ⟨hn1, hn2⟩ := hn
  obtain ⟨many, hm⟩ : ∃ many : Nat, (many : Int) = n % 400 := ⟨(n % 400).toNat, by omega⟩
  have hlt : many < 400 := by omega
  have HM := hid hm
  clear hm
  cases front with
  | false =>
    go_enter Try.func5, Try.ntmps5
    go_wp2_with fail
    rw [← HM.out]
    go_loopw [6, 7, 15] (fun s i c wr => ∃ (k : Nat) (v : Option Addr), k ≤ many ∧ c = .int .i64 k ∧ s = .pointer v ∧ Hid (IsTr wr wr.heap.size v (grow false k)) ∧ Hid (Below w.heap.size w wr)) (fun s i c wr => many - (intOf c).toNat)
    case atStart => exact ⟨0, none, Nat.zero_le _, rfl, rfl, hid rfl, hid (Below.refl _ _)⟩
    case round =>
      obtain ⟨k, v, hk, rfl, rfl, HT, HB⟩ := hrel
      by_cases hc : k < many
      · have hc1 : (k : Int) < (many : Int) := by omega
        go_wp2_with fail
        refine (of_any (p := [(k : Int)]) rfl (lit_ints wr _ [(k : Int)] (by simp)) (by simp)).mono ?_; rintro e w1 ⟨v1, rfl, h1, b1⟩
        have H1 := hid h1
        have HT1 := hid ((HT.out.new (.cells (ints [(k : Int)]).toArray 3)).call b1)
        have HB1 := hid (Bl.call (Bl.new HB.out (.cells (ints [(k : Int)]).toArray 3)) b1)
        clear h1 b1 HT HB
        go_wp2_with fail
        refine (join_any HT1.out H1.out (by rw [sz_grow]; omega) (by rw [sz_one]; omega)).mono ?_; rintro e w2 ⟨v2, rfl, h2, b2⟩
        rw [grow_f k] at h2
        have H2 := hid h2
        have HB2 := hid (Bl.call HB1.out b2)
        clear h2 b2 HT1 HB1 H1
        go_wp2_with fail
        go_roundw
        case rel => exact ⟨k + 1, v2, by omega, by go_num, rfl, H2, HB2⟩
        case measure => simp [intOf]; omega
      · obtain rfl : k = many := by omega
        have hc1 : ¬ (k : Int) < (k : Int) := by omega
        have HS := hid (sz_grow false k)
        have HL := hid (bal_grow false k)
        go_wp2_with fail
        obtain ⟨wo, hwo⟩ : ∃ wo : World, wo = wr := ⟨_, rfl⟩
        subst hwo
        have HQ := hid (len_any HT.out)
        rw [HS.out] at HQ
        have HH := hid (height_any HT.out)
        have hb0 : ht (grow false k) ≤ 400 := by have := ht_le_sz (grow false k); rw [HS.out] at this; omega
        go_loop [8] (fun c => ∃ j : Nat, j ≤ 9 ∧ c = .int .i64 j ∧ Hid (j = 0 ∨ 0 < k)) (fun c => 10 - (intOf c).toNat)
        case atStart => exact ⟨0, by omega, rfl, hid (.inl rfl)⟩
        case round =>
          obtain ⟨j, hj, rfl, h0⟩ := hrel
          have hj' : j = 0 ∨ j = 1 ∨ j = 2 ∨ j = 3 ∨ j = 4 ∨ j = 5 ∨ j = 6 ∨ j = 7 ∨ j = 8 ∨ j = 9 := by omega
          by_cases hp : 2 ^ j ≤ k
          · rcases hj' with rfl | rfl | rfl | rfl | rfl | rfl | rfl | rfl | rfl | rfl
            all_goals try (exfalso; omega)
            · have hp1 : (1 : Int) ≤ (k : Int) := by omega
              have h1 : Hid (0 + 1 = 0 ∨ 0 < k) := hid (.inr (by omega))
              clear hp h0
              go_wp2_with fail
              go_round
              case rel => exact ⟨0 + 1, by omega, by go_num, h1⟩
              case measure => simp [intOf]
            · have hp1 : (2 : Int) ≤ (k : Int) := by omega
              have h1 : Hid (1 + 1 = 0 ∨ 0 < k) := hid (.inr (by omega))
              clear hp h0
              go_wp2_with fail
              go_round
              case rel => exact ⟨1 + 1, by omega, by go_num, h1⟩
              case measure => simp [intOf]
            · have hp1 : (4 : Int) ≤ (k : Int) := by omega
              have h1 : Hid (2 + 1 = 0 ∨ 0 < k) := hid (.inr (by omega))
              clear hp h0
              go_wp2_with fail
              go_round
              case rel => exact ⟨2 + 1, by omega, by go_num, h1⟩
              case measure => simp [intOf]
            · have hp1 : (8 : Int) ≤ (k : Int) := by omega
              have h1 : Hid (3 + 1 = 0 ∨ 0 < k) := hid (.inr (by omega))
              clear hp h0
              go_wp2_with fail
              go_round
              case rel => exact ⟨3 + 1, by omega, by go_num, h1⟩
              case measure => simp [intOf]
            · have hp1 : (16 : Int) ≤ (k : Int) := by omega
              have h1 : Hid (4 + 1 = 0 ∨ 0 < k) := hid (.inr (by omega))
              clear hp h0
              go_wp2_with fail
              go_round
              case rel => exact ⟨4 + 1, by omega, by go_num, h1⟩
              case measure => simp [intOf]
            · have hp1 : (32 : Int) ≤ (k : Int) := by omega
              have h1 : Hid (5 + 1 = 0 ∨ 0 < k) := hid (.inr (by omega))
              clear hp h0
              go_wp2_with fail
              go_round
              case rel => exact ⟨5 + 1, by omega, by go_num, h1⟩
              case measure => simp [intOf]
            · have hp1 : (64 : Int) ≤ (k : Int) := by omega
              have h1 : Hid (6 + 1 = 0 ∨ 0 < k) := hid (.inr (by omega))
              clear hp h0
              go_wp2_with fail
              go_round
              case rel => exact ⟨6 + 1, by omega, by go_num, h1⟩
              case measure => simp [intOf]
            · have hp1 : (128 : Int) ≤ (k : Int) := by omega
              have h1 : Hid (7 + 1 = 0 ∨ 0 < k) := hid (.inr (by omega))
              clear hp h0
              go_wp2_with fail
              go_round
              case rel => exact ⟨7 + 1, by omega, by go_num, h1⟩
              case measure => simp [intOf]
            · have hp1 : (256 : Int) ≤ (k : Int) := by omega
              have h1 : Hid (8 + 1 = 0 ∨ 0 < k) := hid (.inr (by omega))
              clear hp h0
              go_wp2_with fail
              go_round
              case rel => exact ⟨8 + 1, by omega, by go_num, h1⟩
              case measure => simp [intOf]
          · have hk2 : k < 2 ^ j := by omega
            have HD : Hid (2 * ht (grow false k) ≤ 3 * j + 1) := hid (bal_low _ HL.out j (by rw [HS.out]; exact hk2))
            rcases hj' with rfl | rfl | rfl | rfl | rfl | rfl | rfl | rfl | rfl | rfl
            · have hp1 : ¬ (1 : Int) ≤ (k : Int) := by omega
              obtain rfl : k = 0 := by omega
              have hd : (2 : Int) * (ht (grow false 0) : Int) ≤ 1 := by have := HD.out; omega
              clear hp hk2 h0
              go_wp2_with fail
              refine (at_out (i := 0) HT.out (by rw [HS.out]; omega)).mono ?_; rintro e w' ⟨rfl, rfl⟩
              go_wp2_with fail
              refine HQ.out.mono ?_; rintro e w' ⟨rfl, rfl⟩
              go_wp2_with fail
              refine HH.out.mono ?_; rintro e w' ⟨rfl, rfl⟩
              go_wp2_with fail
              refine (awake_any _).mono ?_; rintro e w' ⟨rfl, hb⟩
              go_wp2
              go_ret
              exact ⟨rfl, Bl.call HB.out hb⟩
            · have hp1 : ¬ (2 : Int) ≤ (k : Int) := by omega
              have hk0 : (0 : Int) < (k : Int) := by have := h0.out; omega
              have hd : (2 : Int) * (ht (grow false k) : Int) ≤ 4 := by have := HD.out; omega
              have HX : Hid ((ls (grow false k))[(0 : Int).toNat]? = some (0)) := hid (first_false k (by omega))
              clear hp hk2 h0
              go_wp2_with fail
              refine (at_is (i := 0) (0) HT.out (by decide) HX.out (by rw [HS.out]; omega)).mono ?_; rintro e w' ⟨rfl, rfl⟩
              go_wp2_with fail
              refine HQ.out.mono ?_; rintro e w' ⟨rfl, rfl⟩
              go_wp2_with fail
              refine HH.out.mono ?_; rintro e w' ⟨rfl, rfl⟩
              go_wp2_with fail
              refine (awake_any _).mono ?_; rintro e w' ⟨rfl, hb⟩
              go_wp2
              go_ret
              exact ⟨rfl, Bl.call HB.out hb⟩
            · have hp1 : ¬ (4 : Int) ≤ (k : Int) := by omega
              have hk0 : (0 : Int) < (k : Int) := by have := h0.out; omega
              have hd : (2 : Int) * (ht (grow false k) : Int) ≤ 7 := by have := HD.out; omega
              have HX : Hid ((ls (grow false k))[(0 : Int).toNat]? = some (0)) := hid (first_false k (by omega))
              clear hp hk2 h0
              go_wp2_with fail
              refine (at_is (i := 0) (0) HT.out (by decide) HX.out (by rw [HS.out]; omega)).mono ?_; rintro e w' ⟨rfl, rfl⟩
              go_wp2_with fail
              refine HQ.out.mono ?_; rintro e w' ⟨rfl, rfl⟩
              go_wp2_with fail
              refine HH.out.mono ?_; rintro e w' ⟨rfl, rfl⟩
              go_wp2_with fail
              refine (awake_any _).mono ?_; rintro e w' ⟨rfl, hb⟩
              go_wp2
              go_ret
              exact ⟨rfl, Bl.call HB.out hb⟩
            · have hp1 : ¬ (8 : Int) ≤ (k : Int) := by omega
              have hk0 : (0 : Int) < (k : Int) := by have := h0.out; omega
              have hd : (2 : Int) * (ht (grow false k) : Int) ≤ 10 := by have := HD.out; omega
              have HX : Hid ((ls (grow false k))[(0 : Int).toNat]? = some (0)) := hid (first_false k (by omega))
              clear hp hk2 h0
              go_wp2_with fail
              refine (at_is (i := 0) (0) HT.out (by decide) HX.out (by rw [HS.out]; omega)).mono ?_; rintro e w' ⟨rfl, rfl⟩
              go_wp2_with fail
              refine HQ.out.mono ?_; rintro e w' ⟨rfl, rfl⟩
              go_wp2_with fail
              refine HH.out.mono ?_; rintro e w' ⟨rfl, rfl⟩
              go_wp2_with fail
              refine (awake_any _).mono ?_; rintro e w' ⟨rfl, hb⟩
              go_wp2
              go_ret
              exact ⟨rfl, Bl.call HB.out hb⟩
            · have hp1 : ¬ (16 : Int) ≤ (k : Int) := by omega
              have hk0 : (0 : Int) < (k : Int) := by have := h0.out; omega
              have hd : (2 : Int) * (ht (grow false k) : Int) ≤ 13 := by have := HD.out; omega
              have HX : Hid ((ls (grow false k))[(0 : Int).toNat]? = some (0)) := hid (first_false k (by omega))
              clear hp hk2 h0
              go_wp2_with fail
              refine (at_is (i := 0) (0) HT.out (by decide) HX.out (by rw [HS.out]; omega)).mono ?_; rintro e w' ⟨rfl, rfl⟩
              go_wp2_with fail
              refine HQ.out.mono ?_; rintro e w' ⟨rfl, rfl⟩
              go_wp2_with fail
              refine HH.out.mono ?_; rintro e w' ⟨rfl, rfl⟩
              go_wp2_with fail
              refine (awake_any _).mono ?_; rintro e w' ⟨rfl, hb⟩
              go_wp2
              go_ret
              exact ⟨rfl, Bl.call HB.out hb⟩
            · have hp1 : ¬ (32 : Int) ≤ (k : Int) := by omega
              have hk0 : (0 : Int) < (k : Int) := by have := h0.out; omega
              have hd : (2 : Int) * (ht (grow false k) : Int) ≤ 16 := by have := HD.out; omega
              have HX : Hid ((ls (grow false k))[(0 : Int).toNat]? = some (0)) := hid (first_false k (by omega))
              clear hp hk2 h0
              go_wp2_with fail
              refine (at_is (i := 0) (0) HT.out (by decide) HX.out (by rw [HS.out]; omega)).mono ?_; rintro e w' ⟨rfl, rfl⟩
              go_wp2_with fail
              refine HQ.out.mono ?_; rintro e w' ⟨rfl, rfl⟩
              go_wp2_with fail
              refine HH.out.mono ?_; rintro e w' ⟨rfl, rfl⟩
              go_wp2_with fail
              refine (awake_any _).mono ?_; rintro e w' ⟨rfl, hb⟩
              go_wp2
              go_ret
              exact ⟨rfl, Bl.call HB.out hb⟩
            · have hp1 : ¬ (64 : Int) ≤ (k : Int) := by omega
              have hk0 : (0 : Int) < (k : Int) := by have := h0.out; omega
              have hd : (2 : Int) * (ht (grow false k) : Int) ≤ 19 := by have := HD.out; omega
              have HX : Hid ((ls (grow false k))[(0 : Int).toNat]? = some (0)) := hid (first_false k (by omega))
              clear hp hk2 h0
              go_wp2_with fail
              refine (at_is (i := 0) (0) HT.out (by decide) HX.out (by rw [HS.out]; omega)).mono ?_; rintro e w' ⟨rfl, rfl⟩
              go_wp2_with fail
              refine HQ.out.mono ?_; rintro e w' ⟨rfl, rfl⟩
              go_wp2_with fail
              refine HH.out.mono ?_; rintro e w' ⟨rfl, rfl⟩
              go_wp2_with fail
              refine (awake_any _).mono ?_; rintro e w' ⟨rfl, hb⟩
              go_wp2
              go_ret
              exact ⟨rfl, Bl.call HB.out hb⟩
            · have hp1 : ¬ (128 : Int) ≤ (k : Int) := by omega
              have hk0 : (0 : Int) < (k : Int) := by have := h0.out; omega
              have hd : (2 : Int) * (ht (grow false k) : Int) ≤ 22 := by have := HD.out; omega
              have HX : Hid ((ls (grow false k))[(0 : Int).toNat]? = some (0)) := hid (first_false k (by omega))
              clear hp hk2 h0
              go_wp2_with fail
              refine (at_is (i := 0) (0) HT.out (by decide) HX.out (by rw [HS.out]; omega)).mono ?_; rintro e w' ⟨rfl, rfl⟩
              go_wp2_with fail
              refine HQ.out.mono ?_; rintro e w' ⟨rfl, rfl⟩
              go_wp2_with fail
              refine HH.out.mono ?_; rintro e w' ⟨rfl, rfl⟩
              go_wp2_with fail
              refine (awake_any _).mono ?_; rintro e w' ⟨rfl, hb⟩
              go_wp2
              go_ret
              exact ⟨rfl, Bl.call HB.out hb⟩
            · have hp1 : ¬ (256 : Int) ≤ (k : Int) := by omega
              have hk0 : (0 : Int) < (k : Int) := by have := h0.out; omega
              have hd : (2 : Int) * (ht (grow false k) : Int) ≤ 25 := by have := HD.out; omega
              have HX : Hid ((ls (grow false k))[(0 : Int).toNat]? = some (0)) := hid (first_false k (by omega))
              clear hp hk2 h0
              go_wp2_with fail
              refine (at_is (i := 0) (0) HT.out (by decide) HX.out (by rw [HS.out]; omega)).mono ?_; rintro e w' ⟨rfl, rfl⟩
              go_wp2_with fail
              refine HQ.out.mono ?_; rintro e w' ⟨rfl, rfl⟩
              go_wp2_with fail
              refine HH.out.mono ?_; rintro e w' ⟨rfl, rfl⟩
              go_wp2_with fail
              refine (awake_any _).mono ?_; rintro e w' ⟨rfl, hb⟩
              go_wp2
              go_ret
              exact ⟨rfl, Bl.call HB.out hb⟩
            · have hp1 : ¬ (512 : Int) ≤ (k : Int) := by omega
              have hk0 : (0 : Int) < (k : Int) := by have := h0.out; omega
              have hd : (2 : Int) * (ht (grow false k) : Int) ≤ 28 := by have := HD.out; omega
              have HX : Hid ((ls (grow false k))[(0 : Int).toNat]? = some (0)) := hid (first_false k (by omega))
              clear hp hk2 h0
              go_wp2_with fail
              refine (at_is (i := 0) (0) HT.out (by decide) HX.out (by rw [HS.out]; omega)).mono ?_; rintro e w' ⟨rfl, rfl⟩
              go_wp2_with fail
              refine HQ.out.mono ?_; rintro e w' ⟨rfl, rfl⟩
              go_wp2_with fail
              refine HH.out.mono ?_; rintro e w' ⟨rfl, rfl⟩
              go_wp2_with fail
              refine (awake_any _).mono ?_; rintro e w' ⟨rfl, hb⟩
              go_wp2
              go_ret
              exact ⟨rfl, Bl.call HB.out hb⟩
  | true =>
    go_enter Try.func5, Try.ntmps5
    go_wp2_with fail
    rw [← HM.out]
    go_loopw [6, 7, 15] (fun s i c wr => ∃ (k : Nat) (v : Option Addr), k ≤ many ∧ c = .int .i64 k ∧ s = .pointer v ∧ Hid (IsTr wr wr.heap.size v (grow true k)) ∧ Hid (Below w.heap.size w wr)) (fun s i c wr => many - (intOf c).toNat)
    case atStart => exact ⟨0, none, Nat.zero_le _, rfl, rfl, hid rfl, hid (Below.refl _ _)⟩
    case round =>
      obtain ⟨k, v, hk, rfl, rfl, HT, HB⟩ := hrel
      by_cases hc : k < many
      · have hc1 : (k : Int) < (many : Int) := by omega
        go_wp2_with fail
        refine (of_any (p := [(k : Int)]) rfl (lit_ints wr _ [(k : Int)] (by simp)) (by simp)).mono ?_; rintro e w1 ⟨v1, rfl, h1, b1⟩
        have H1 := hid h1
        have HT1 := hid ((HT.out.new (.cells (ints [(k : Int)]).toArray 3)).call b1)
        have HB1 := hid (Bl.call (Bl.new HB.out (.cells (ints [(k : Int)]).toArray 3)) b1)
        clear h1 b1 HT HB
        go_wp2_with fail
        refine (join_any H1.out HT1.out (by rw [sz_one]; omega) (by rw [sz_grow]; omega)).mono ?_; rintro e w2 ⟨v2, rfl, h2, b2⟩
        rw [grow_t k] at h2
        have H2 := hid h2
        have HB2 := hid (Bl.call HB1.out b2)
        clear h2 b2 HT1 HB1 H1
        go_wp2_with fail
        go_roundw
        case rel => exact ⟨k + 1, v2, by omega, by go_num, rfl, H2, HB2⟩
        case measure => simp [intOf]; omega
      · obtain rfl : k = many := by omega
        have hc1 : ¬ (k : Int) < (k : Int) := by omega
        have HS := hid (sz_grow true k)
        have HL := hid (bal_grow true k)
        go_wp2_with fail
        obtain ⟨wo, hwo⟩ : ∃ wo : World, wo = wr := ⟨_, rfl⟩
        subst hwo
        have HQ := hid (len_any HT.out)
        rw [HS.out] at HQ
        have HH := hid (height_any HT.out)
        have hb0 : ht (grow true k) ≤ 400 := by have := ht_le_sz (grow true k); rw [HS.out] at this; omega
        go_loop [8] (fun c => ∃ j : Nat, j ≤ 9 ∧ c = .int .i64 j ∧ Hid (j = 0 ∨ 0 < k)) (fun c => 10 - (intOf c).toNat)
        case atStart => exact ⟨0, by omega, rfl, hid (.inl rfl)⟩
        case round =>
          obtain ⟨j, hj, rfl, h0⟩ := hrel
          have hj' : j = 0 ∨ j = 1 ∨ j = 2 ∨ j = 3 ∨ j = 4 ∨ j = 5 ∨ j = 6 ∨ j = 7 ∨ j = 8 ∨ j = 9 := by omega
          by_cases hp : 2 ^ j ≤ k
          · rcases hj' with rfl | rfl | rfl | rfl | rfl | rfl | rfl | rfl | rfl | rfl
            all_goals try (exfalso; omega)
            · have hp1 : (1 : Int) ≤ (k : Int) := by omega
              have h1 : Hid (0 + 1 = 0 ∨ 0 < k) := hid (.inr (by omega))
              clear hp h0
              go_wp2_with fail
              go_round
              case rel => exact ⟨0 + 1, by omega, by go_num, h1⟩
              case measure => simp [intOf]
            · have hp1 : (2 : Int) ≤ (k : Int) := by omega
              have h1 : Hid (1 + 1 = 0 ∨ 0 < k) := hid (.inr (by omega))
              clear hp h0
              go_wp2_with fail
              go_round
              case rel => exact ⟨1 + 1, by omega, by go_num, h1⟩
              case measure => simp [intOf]
            · have hp1 : (4 : Int) ≤ (k : Int) := by omega
              have h1 : Hid (2 + 1 = 0 ∨ 0 < k) := hid (.inr (by omega))
              clear hp h0
              go_wp2_with fail
              go_round
              case rel => exact ⟨2 + 1, by omega, by go_num, h1⟩
              case measure => simp [intOf]
            · have hp1 : (8 : Int) ≤ (k : Int) := by omega
              have h1 : Hid (3 + 1 = 0 ∨ 0 < k) := hid (.inr (by omega))
              clear hp h0
              go_wp2_with fail
              go_round
              case rel => exact ⟨3 + 1, by omega, by go_num, h1⟩
              case measure => simp [intOf]
            · have hp1 : (16 : Int) ≤ (k : Int) := by omega
              have h1 : Hid (4 + 1 = 0 ∨ 0 < k) := hid (.inr (by omega))
              clear hp h0
              go_wp2_with fail
              go_round
              case rel => exact ⟨4 + 1, by omega, by go_num, h1⟩
              case measure => simp [intOf]
            · have hp1 : (32 : Int) ≤ (k : Int) := by omega
              have h1 : Hid (5 + 1 = 0 ∨ 0 < k) := hid (.inr (by omega))
              clear hp h0
              go_wp2_with fail
              go_round
              case rel => exact ⟨5 + 1, by omega, by go_num, h1⟩
              case measure => simp [intOf]
            · have hp1 : (64 : Int) ≤ (k : Int) := by omega
              have h1 : Hid (6 + 1 = 0 ∨ 0 < k) := hid (.inr (by omega))
              clear hp h0
              go_wp2_with fail
              go_round
              case rel => exact ⟨6 + 1, by omega, by go_num, h1⟩
              case measure => simp [intOf]
            · have hp1 : (128 : Int) ≤ (k : Int) := by omega
              have h1 : Hid (7 + 1 = 0 ∨ 0 < k) := hid (.inr (by omega))
              clear hp h0
              go_wp2_with fail
              go_round
              case rel => exact ⟨7 + 1, by omega, by go_num, h1⟩
              case measure => simp [intOf]
            · have hp1 : (256 : Int) ≤ (k : Int) := by omega
              have h1 : Hid (8 + 1 = 0 ∨ 0 < k) := hid (.inr (by omega))
              clear hp h0
              go_wp2_with fail
              go_round
              case rel => exact ⟨8 + 1, by omega, by go_num, h1⟩
              case measure => simp [intOf]
          · have hk2 : k < 2 ^ j := by omega
            have HD : Hid (2 * ht (grow true k) ≤ 3 * j + 1) := hid (bal_low _ HL.out j (by rw [HS.out]; exact hk2))
            rcases hj' with rfl | rfl | rfl | rfl | rfl | rfl | rfl | rfl | rfl | rfl
            · have hp1 : ¬ (1 : Int) ≤ (k : Int) := by omega
              obtain rfl : k = 0 := by omega
              have hd : (2 : Int) * (ht (grow true 0) : Int) ≤ 1 := by have := HD.out; omega
              clear hp hk2 h0
              go_wp2_with fail
              refine (at_out (i := 0) HT.out (by rw [HS.out]; omega)).mono ?_; rintro e w' ⟨rfl, rfl⟩
              go_wp2_with fail
              refine HQ.out.mono ?_; rintro e w' ⟨rfl, rfl⟩
              go_wp2_with fail
              refine HH.out.mono ?_; rintro e w' ⟨rfl, rfl⟩
              go_wp2_with fail
              refine (awake_any _).mono ?_; rintro e w' ⟨rfl, hb⟩
              go_wp2
              go_ret
              exact ⟨rfl, Bl.call HB.out hb⟩
            · have hp1 : ¬ (2 : Int) ≤ (k : Int) := by omega
              have hk0 : (0 : Int) < (k : Int) := by have := h0.out; omega
              have hd : (2 : Int) * (ht (grow true k) : Int) ≤ 4 := by have := HD.out; omega
              have HX : Hid ((ls (grow true k))[(0 : Int).toNat]? = some ((k : Int) - 1)) := hid (first_true k (by omega))
              clear hp hk2 h0
              go_wp2_with fail
              refine (at_is (i := 0) ((k : Int) - 1) HT.out (by decide) HX.out (by rw [HS.out]; omega)).mono ?_; rintro e w' ⟨rfl, rfl⟩
              go_wp2_with fail
              refine HQ.out.mono ?_; rintro e w' ⟨rfl, rfl⟩
              go_wp2_with fail
              refine HH.out.mono ?_; rintro e w' ⟨rfl, rfl⟩
              go_wp2_with fail
              refine (awake_any _).mono ?_; rintro e w' ⟨rfl, hb⟩
              go_wp2
              go_ret
              exact ⟨rfl, Bl.call HB.out hb⟩
            · have hp1 : ¬ (4 : Int) ≤ (k : Int) := by omega
              have hk0 : (0 : Int) < (k : Int) := by have := h0.out; omega
              have hd : (2 : Int) * (ht (grow true k) : Int) ≤ 7 := by have := HD.out; omega
              have HX : Hid ((ls (grow true k))[(0 : Int).toNat]? = some ((k : Int) - 1)) := hid (first_true k (by omega))
              clear hp hk2 h0
              go_wp2_with fail
              refine (at_is (i := 0) ((k : Int) - 1) HT.out (by decide) HX.out (by rw [HS.out]; omega)).mono ?_; rintro e w' ⟨rfl, rfl⟩
              go_wp2_with fail
              refine HQ.out.mono ?_; rintro e w' ⟨rfl, rfl⟩
              go_wp2_with fail
              refine HH.out.mono ?_; rintro e w' ⟨rfl, rfl⟩
              go_wp2_with fail
              refine (awake_any _).mono ?_; rintro e w' ⟨rfl, hb⟩
              go_wp2
              go_ret
              exact ⟨rfl, Bl.call HB.out hb⟩
            · have hp1 : ¬ (8 : Int) ≤ (k : Int) := by omega
              have hk0 : (0 : Int) < (k : Int) := by have := h0.out; omega
              have hd : (2 : Int) * (ht (grow true k) : Int) ≤ 10 := by have := HD.out; omega
              have HX : Hid ((ls (grow true k))[(0 : Int).toNat]? = some ((k : Int) - 1)) := hid (first_true k (by omega))
              clear hp hk2 h0
              go_wp2_with fail
              refine (at_is (i := 0) ((k : Int) - 1) HT.out (by decide) HX.out (by rw [HS.out]; omega)).mono ?_; rintro e w' ⟨rfl, rfl⟩
              go_wp2_with fail
              refine HQ.out.mono ?_; rintro e w' ⟨rfl, rfl⟩
              go_wp2_with fail
              refine HH.out.mono ?_; rintro e w' ⟨rfl, rfl⟩
              go_wp2_with fail
              refine (awake_any _).mono ?_; rintro e w' ⟨rfl, hb⟩
              go_wp2
              go_ret
              exact ⟨rfl, Bl.call HB.out hb⟩
            · have hp1 : ¬ (16 : Int) ≤ (k : Int) := by omega
              have hk0 : (0 : Int) < (k : Int) := by have := h0.out; omega
              have hd : (2 : Int) * (ht (grow true k) : Int) ≤ 13 := by have := HD.out; omega
              have HX : Hid ((ls (grow true k))[(0 : Int).toNat]? = some ((k : Int) - 1)) := hid (first_true k (by omega))
              clear hp hk2 h0
              go_wp2_with fail
              refine (at_is (i := 0) ((k : Int) - 1) HT.out (by decide) HX.out (by rw [HS.out]; omega)).mono ?_; rintro e w' ⟨rfl, rfl⟩
              go_wp2_with fail
              refine HQ.out.mono ?_; rintro e w' ⟨rfl, rfl⟩
              go_wp2_with fail
              refine HH.out.mono ?_; rintro e w' ⟨rfl, rfl⟩
              go_wp2_with fail
              refine (awake_any _).mono ?_; rintro e w' ⟨rfl, hb⟩
              go_wp2
              go_ret
              exact ⟨rfl, Bl.call HB.out hb⟩
            · have hp1 : ¬ (32 : Int) ≤ (k : Int) := by omega
              have hk0 : (0 : Int) < (k : Int) := by have := h0.out; omega
              have hd : (2 : Int) * (ht (grow true k) : Int) ≤ 16 := by have := HD.out; omega
              have HX : Hid ((ls (grow true k))[(0 : Int).toNat]? = some ((k : Int) - 1)) := hid (first_true k (by omega))
              clear hp hk2 h0
              go_wp2_with fail
              refine (at_is (i := 0) ((k : Int) - 1) HT.out (by decide) HX.out (by rw [HS.out]; omega)).mono ?_; rintro e w' ⟨rfl, rfl⟩
              go_wp2_with fail
              refine HQ.out.mono ?_; rintro e w' ⟨rfl, rfl⟩
              go_wp2_with fail
              refine HH.out.mono ?_; rintro e w' ⟨rfl, rfl⟩
              go_wp2_with fail
              refine (awake_any _).mono ?_; rintro e w' ⟨rfl, hb⟩
              go_wp2
              go_ret
              exact ⟨rfl, Bl.call HB.out hb⟩
            · have hp1 : ¬ (64 : Int) ≤ (k : Int) := by omega
              have hk0 : (0 : Int) < (k : Int) := by have := h0.out; omega
              have hd : (2 : Int) * (ht (grow true k) : Int) ≤ 19 := by have := HD.out; omega
              have HX : Hid ((ls (grow true k))[(0 : Int).toNat]? = some ((k : Int) - 1)) := hid (first_true k (by omega))
              clear hp hk2 h0
              go_wp2_with fail
              refine (at_is (i := 0) ((k : Int) - 1) HT.out (by decide) HX.out (by rw [HS.out]; omega)).mono ?_; rintro e w' ⟨rfl, rfl⟩
              go_wp2_with fail
              refine HQ.out.mono ?_; rintro e w' ⟨rfl, rfl⟩
              go_wp2_with fail
              refine HH.out.mono ?_; rintro e w' ⟨rfl, rfl⟩
              go_wp2_with fail
              refine (awake_any _).mono ?_; rintro e w' ⟨rfl, hb⟩
              go_wp2
              go_ret
              exact ⟨rfl, Bl.call HB.out hb⟩
            · have hp1 : ¬ (128 : Int) ≤ (k : Int) := by omega
              have hk0 : (0 : Int) < (k : Int) := by have := h0.out; omega
              have hd : (2 : Int) * (ht (grow true k) : Int) ≤ 22 := by have := HD.out; omega
              have HX : Hid ((ls (grow true k))[(0 : Int).toNat]? = some ((k : Int) - 1)) := hid (first_true k (by omega))
              clear hp hk2 h0
              go_wp2_with fail
              refine (at_is (i := 0) ((k : Int) - 1) HT.out (by decide) HX.out (by rw [HS.out]; omega)).mono ?_; rintro e w' ⟨rfl, rfl⟩
              go_wp2_with fail
              refine HQ.out.mono ?_; rintro e w' ⟨rfl, rfl⟩
              go_wp2_with fail
              refine HH.out.mono ?_; rintro e w' ⟨rfl, rfl⟩
              go_wp2_with fail
              refine (awake_any _).mono ?_; rintro e w' ⟨rfl, hb⟩
              go_wp2
              go_ret
              exact ⟨rfl, Bl.call HB.out hb⟩
            · have hp1 : ¬ (256 : Int) ≤ (k : Int) := by omega
              have hk0 : (0 : Int) < (k : Int) := by have := h0.out; omega
              have hd : (2 : Int) * (ht (grow true k) : Int) ≤ 25 := by have := HD.out; omega
              have HX : Hid ((ls (grow true k))[(0 : Int).toNat]? = some ((k : Int) - 1)) := hid (first_true k (by omega))
              clear hp hk2 h0
              go_wp2_with fail
              refine (at_is (i := 0) ((k : Int) - 1) HT.out (by decide) HX.out (by rw [HS.out]; omega)).mono ?_; rintro e w' ⟨rfl, rfl⟩
              go_wp2_with fail
              refine HQ.out.mono ?_; rintro e w' ⟨rfl, rfl⟩
              go_wp2_with fail
              refine HH.out.mono ?_; rintro e w' ⟨rfl, rfl⟩
              go_wp2_with fail
              refine (awake_any _).mono ?_; rintro e w' ⟨rfl, hb⟩
              go_wp2
              go_ret
              exact ⟨rfl, Bl.call HB.out hb⟩
            · have hp1 : ¬ (512 : Int) ≤ (k : Int) := by omega
              have hk0 : (0 : Int) < (k : Int) := by have := h0.out; omega
              have hd : (2 : Int) * (ht (grow true k) : Int) ≤ 28 := by have := HD.out; omega
              have HX : Hid ((ls (grow true k))[(0 : Int).toNat]? = some ((k : Int) - 1)) := hid (first_true k (by omega))
              clear hp hk2 h0
              go_wp2_with fail
              refine (at_is (i := 0) ((k : Int) - 1) HT.out (by decide) HX.out (by rw [HS.out]; omega)).mono ?_; rintro e w' ⟨rfl, rfl⟩
              go_wp2_with fail
              refine HQ.out.mono ?_; rintro e w' ⟨rfl, rfl⟩
              go_wp2_with fail
              refine HH.out.mono ?_; rintro e w' ⟨rfl, rfl⟩
              go_wp2_with fail
              refine (awake_any _).mono ?_; rintro e w' ⟨rfl, hb⟩
              go_wp2
              go_ret
              exact ⟨rfl, Bl.call HB.out hb⟩
end Go.Proofs.Ytleeomiocofgiaa
