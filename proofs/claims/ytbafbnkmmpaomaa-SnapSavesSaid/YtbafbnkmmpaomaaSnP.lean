/- Contract of snap.parsed: what bytes do not say a state. -/
import Derived.Test.YtbafbnkmmpaomaaSnO
import Derived.IntWalk
import Derived.Deep.RegionLaw
import Derived.Deep.AppendLies
namespace Go.Proofs.Ytbafbnkmmpaomaa
open Go.RowKit
set_option linter.unusedVariables false
set_option linter.unusedSimpArgs false
attribute [local go_sem ↓] Go.wp_at_zero Go.wp_at_succ
def st0 : Sn.St := { N := 0, L := 0, R := 0, hs := [], es := [], ss := [] }
/-- The values of a state, in memory. -/
def StAt (w : World) (s : Sn.St) (vh ve vs : Value) (nh ne ns : Nat) : Prop := Sl w w.heap.size 2 vh nh (hcz s.hs) ∧ Sl w w.heap.size 3 ve ne (eds s.es) ∧ Sl w w.heap.size 2 vs ns (sls s.ss)
/-- The same, in new blocks. -/
def StOwn (w : World) (B : Nat) (s : Sn.St) (vh ve vs : Value) (nh ne ns : Nat) : Prop := w.ownsRow B 59 2 vh nh (hcz s.hs) ∧ w.ownsRow B 61 3 ve ne (eds s.es) ∧ w.ownsRow B 63 2 vs ns (sls s.ss)
def ParPost (w : World) (s : Sn.St) (ok : Bool) (e : Ending) (w' : World) : Prop := ∃ vh ve vs nh ne ns, e = .returned (.tuple #[stV s.N s.L s.R vh ve vs, .bool ok]) ∧ StOwn w' w.heap.size s vh ve vs nh ne ns ∧ Below w.heap.size w w'
theorem stat0 (w : World) : StAt w st0 (.slice none 0 0) (.slice none 0 0) (.slice none 0 0) 0 0 0 := ⟨Sl.none_ _ _ _, Sl.none_ _ _ _, Sl.none_ _ _ _⟩
theorem own_nil (w : World) (base sz : Nat) (e : TypeId) : w.ownsRow base e sz (.slice none 0 0) 0 [] := ⟨by simp, .inl ⟨rfl, rfl⟩⟩
theorem stown0 (w : World) (B : Nat) : StOwn w B st0 (.slice none 0 0) (.slice none 0 0) (.slice none 0 0) 0 0 0 := ⟨own_nil _ _ _ _, own_nil _ _ _ _, own_nil _ _ _ _⟩
theorem part_eq (l : Sn.By) (a k : Nat) : part l a k = Sn.part l a k := rfl
theorem num_any {l : Sn.By} {at_ k : Nat} (s : ByteArray) (hs : s = str l) (hk : k ≤ 8) (h : at_ + k ≤ l.length) (hl : l.length ≤ 1000000) (n : Nat) (hn : Sn.num l at_ k = n) (a k' : Int) (ha : a = (at_ : Int)) (hk' : k' = (k : Int)) (w : World) :
    Calls Try.prog 49 #[.string s, .int .i64 a, .int .i64 k'] w fun e w' => e = .returned (.int .u64 (n : Int)) ∧ w = w' := by
  subst hs ha hk' hn
  exact bget_any hk h hl
theorem num_lt (l : Sn.By) (a k : Nat) : Sn.num l a k < 256 ^ k := part_lt l a k
set_option maxRecDepth 100000 in
set_option maxHeartbeats 8000000 in
theorem par_no {l : Sn.By} {w : World} (hl : l.length ≤ 100000) (hf : ¬ Sn.Fits l) : Calls Try.prog 36 #[.string (str l)] w (ParPost w st0 false) := by
  replace hl : l.length ≤ 1000000 := by omega
  have HNF := hid hf
  clear hf
  obtain ⟨s, hs⟩ : ∃ s, s = str l := ⟨_, rfl⟩
  have hsz : s.size = l.length := by rw [hs]; exact str_size l
  rw [← hs]
  have HS := hid hs
  clear hs
  have HBB : Hid (Below w.heap.size w ((w.alloc (.cells #[.int .i64 0, .int .i64 0, .int .i64 0, .slice none 0 0, .slice none 0 0, .slice none 0 0] 30)).alloc (.cells #[.int .i64 0, .int .i64 0, .int .i64 0, .slice none 0 0, .slice none 0 0, .slice none 0 0] 30))) := hid (Bl.new (bel_new _ _) _)
  have HBC : Hid (∀ x y z : Int, Below w.heap.size w (((w.alloc (.cells #[.int .i64 0, .int .i64 0, .int .i64 0, .slice none 0 0, .slice none 0 0, .slice none 0 0] 30)).alloc (.cells #[.int .i64 0, .int .i64 0, .int .i64 0, .slice none 0 0, .slice none 0 0, .slice none 0 0] 30)).alloc (.cells #[.int .i64 x, .int .i64 y, .int .i64 z] 23))) := hid (fun x y z => Bl.new (Bl.new (bel_new _ _) _) _)
  by_cases c0 : (l.length : Int) < 10
  case pos =>
    go_enter Try.func36, Try.ntmps36
    go_wp2_with fail
    exact bodyPost_ret (v := .tuple #[stV 0 0 0 (.slice none 0 0) (.slice none 0 0) (.slice none 0 0), .bool false]) (by simp [results, Try.results36, go_sem, stV]) rfl ⟨_, _, _, _, _, _, rfl, stown0 _ _, HBB.out⟩
  case neg =>
    obtain ⟨n, hn⟩ : ∃ n, Sn.num l 4 2 = n := ⟨_, rfl⟩
    have nb : n ≤ 65535 := by have := num_lt l 4 2; rw [hn] at this; omega
    have HA1 : Hid (∀ w : World, Calls Try.prog 49 #[.string s, .int .i64 4, .int .i64 2] w fun e w' => e = .returned (.int .u64 (n : Int)) ∧ w = w') := hid (fun w => num_any s HS.out (by decide) (by omega) hl n hn 4 2 rfl rfl w)
    have Hn := hid hn
    clear hn
    obtain ⟨L, hL⟩ : ∃ L, Sn.num l 6 2 = L := ⟨_, rfl⟩
    have Lb : L ≤ 65535 := by have := num_lt l 6 2; rw [hL] at this; omega
    have HA2 : Hid (∀ w : World, Calls Try.prog 49 #[.string s, .int .i64 6, .int .i64 2] w fun e w' => e = .returned (.int .u64 (L : Int)) ∧ w = w') := hid (fun w => num_any s HS.out (by decide) (by omega) hl L hL 6 2 rfl rfl w)
    have HL := hid hL
    clear hL
    obtain ⟨R, hR⟩ : ∃ R, Sn.num l 8 2 = R := ⟨_, rfl⟩
    have Rb : R ≤ 65535 := by have := num_lt l 8 2; rw [hR] at this; omega
    have HA3 : Hid (∀ w : World, Calls Try.prog 49 #[.string s, .int .i64 8, .int .i64 2] w fun e w' => e = .returned (.int .u64 (R : Int)) ∧ w = w') := hid (fun w => num_any s HS.out (by decide) (by omega) hl R hR 8 2 rfl rfl w)
    have HR := hid hR
    clear hR
    go_enter Try.func36, Try.ntmps36
    go_wp2_with fail
    refine (HA1.out _).mono ?_; rintro e _ ⟨rfl, rfl⟩
    go_wp2_with fail
    refine (HA2.out _).mono ?_; rintro e _ ⟨rfl, rfl⟩
    go_wp2_with fail
    refine (HA3.out _).mono ?_; rintro e _ ⟨rfl, rfl⟩
    by_cases c1 : (n : Int) ≤ 1024
    case neg =>
      replace c1 : (1024 : Int) < (n : Int) := by omega
      go_wp2_with fail
      exact bodyPost_ret (v := .tuple #[stV 0 0 0 (.slice none 0 0) (.slice none 0 0) (.slice none 0 0), .bool false]) (by simp [results, Try.results36, go_sem, stV]) rfl ⟨_, _, _, _, _, _, rfl, stown0 _ _, HBC.out _ _ _⟩
    case pos =>
    by_cases c2 : (L : Int) ≤ 16
    case neg =>
      replace c2 : (16 : Int) < (L : Int) := by omega
      go_wp2_with fail
      exact bodyPost_ret (v := .tuple #[stV 0 0 0 (.slice none 0 0) (.slice none 0 0) (.slice none 0 0), .bool false]) (by simp [results, Try.results36, go_sem, stV]) rfl ⟨_, _, _, _, _, _, rfl, stown0 _ _, HBC.out _ _ _⟩
    case pos =>
    by_cases c3 : (R : Int) ≤ 8
    case neg =>
      replace c3 : (8 : Int) < (R : Int) := by omega
      go_wp2_with fail
      exact bodyPost_ret (v := .tuple #[stV 0 0 0 (.slice none 0 0) (.slice none 0 0) (.slice none 0 0), .bool false]) (by simp [results, Try.results36, go_sem, stV]) rfl ⟨_, _, _, _, _, _, rfl, stown0 _ _, HBC.out _ _ _⟩
    case pos =>
    obtain ⟨lr, hlr⟩ : ∃ lr : Nat, L * R = lr := ⟨_, rfl⟩
    have lrb : lr ≤ 128 := by rw [← hlr]; exact Nat.mul_le_mul (show L ≤ 16 by omega) (show R ≤ 8 by omega)
    have hlr2 : (L : Int) * (R : Int) = (lr : Int) := by rw [← hlr]; exact (Int.natCast_mul L R).symm
    obtain ⟨F, hF⟩ : ∃ F : Nat, 14 + lr * 16 + n * 9 = F := ⟨_, rfl⟩
    have hF2 : 10 + (lr : Int) * 16 + (n : Int) * 9 + 4 = (F : Int) := by omega
    have Fb : F ≤ 20000 := by omega
    have Fb0 : 14 ≤ F := by omega
    have HFx : Hid (Sn.fixedOf n L R = F) := hid (by unfold Sn.fixedOf; rw [hlr]; exact hF)
    clear hF hlr
    by_cases c4 : (F : Int) + 8 ≤ (l.length : Int)
    case neg =>
      replace c4 : (l.length : Int) < (F : Int) + 8 := by omega
      go_wp2_with fail
      exact bodyPost_ret (v := .tuple #[stV 0 0 0 (.slice none 0 0) (.slice none 0 0) (.slice none 0 0), .bool false]) (by simp [results, Try.results36, go_sem, stV]) rfl ⟨_, _, _, _, _, _, rfl, stown0 _ _, HBC.out _ _ _⟩
    case pos =>
    obtain ⟨T, hT⟩ : ∃ T : Nat, l.length - F - 8 = T := ⟨_, rfl⟩
    have hT2 : (l.length : Int) - (F : Int) - 8 = (T : Int) := by omega
    have Tb : T ≤ 1000000 := by omega
    have HT := hid hT
    clear hT
    have HA4 : Hid (∀ m : Nat, Sn.num l (F - 4) 4 = m → ∀ w : World, Calls Try.prog 49 #[.string s, .int .i64 ((F : Int) - 4), .int .i64 4] w fun e w' => e = .returned (.int .u64 (m : Int)) ∧ w = w') := hid (fun m hm w => num_any s HS.out (by decide) (by omega) hl m hm _ 4 (by omega) rfl w)
    obtain ⟨m, hm⟩ : ∃ m, Sn.num l (F - 4) 4 = m := ⟨_, rfl⟩
    have mb : m ≤ 4294967295 := by have := num_lt l (F - 4) 4; rw [hm] at this; omega
    replace HA4 := hid (HA4.out m hm)
    have Hm := hid hm
    clear hm
    obtain ⟨q, hq⟩ : ∃ q : Nat, T / 5 = q := ⟨_, rfl⟩
    by_cases c5 : T % 5 = 0
    case neg =>
      have d5 : ((T : Int) % 5 != 0) = true := by simp; omega
      have d6 : ¬ (T : Int) % 5 = 0 := by omega
      clear c5
      go_wp2_with fail
      exact bodyPost_ret (v := .tuple #[stV 0 0 0 (.slice none 0 0) (.slice none 0 0) (.slice none 0 0), .bool false]) (by simp [results, Try.results36, go_sem, stV]) rfl ⟨_, _, _, _, _, _, rfl, stown0 _ _, HBC.out _ _ _⟩
    case pos =>
    have d5 : ((T : Int) % 5 != 0) = false := by simp; omega
    have d6 : (T : Int) % 5 = 0 := by omega
    clear c5
    have hq2 : (T : Int) / 5 = (q : Int) := by omega
    have qb : q ≤ 1000000 := by omega
    have hmq : m ≠ q := by
      intro e
      refine HNF.out ⟨by omega, by rw [Hn.out]; omega, by rw [HL.out]; omega, by rw [HR.out]; omega, ?_⟩
      rw [Hn.out, HL.out, HR.out, HFx.out, HT.out]
      exact ⟨by omega, by omega, by rw [Hm.out]; omega⟩
    have d7 : ((m : Int) != (q : Int)) = true := by simp; omega
    clear hmq
    go_wp2_with fail
    refine (HA4.out _).mono ?_; rintro e _ ⟨rfl, rfl⟩
    go_wp2_with fail
    exact bodyPost_ret (v := .tuple #[stV 0 0 0 (.slice none 0 0) (.slice none 0 0) (.slice none 0 0), .bool false]) (by simp [results, Try.results36, go_sem, stV]) rfl ⟨_, _, _, _, _, _, rfl, stown0 _ _, HBC.out _ _ _⟩
end Go.Proofs.Ytbafbnkmmpaomaa
