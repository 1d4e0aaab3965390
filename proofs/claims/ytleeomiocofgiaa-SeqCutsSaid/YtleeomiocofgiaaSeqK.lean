/- The walk of the law SeqCuts. -/
import Derived.Test.YtleeomiocofgiaaSeqJ
import Derived.Deep.DeepCutAuto
namespace Go.Proofs.Ytleeomiocofgiaa
open Go.RowKit Sq
set_option linter.unusedVariables false

theorem mid_cut (l : List Int) (a b : Nat) (h : a ≤ b) : (l.drop a).take (b - a) = (l.take b).drop a := by
  rw [List.drop_take]
theorem mid_lohi (l : List Int) (a b : Nat) (h : a ≤ b) : (l.drop a).take (b - a) = (l.drop (min a l.length)).take (min b l.length - min a l.length) := by
  rcases Nat.le_total a l.length with h1 | h1
  · rcases Nat.le_total b l.length with h2 | h2
    · rw [Nat.min_eq_left h1, Nat.min_eq_left h2]
    · rw [Nat.min_eq_left h1, Nat.min_eq_right h2, List.take_of_length_le (by simp; omega), List.take_of_length_le (by simp)]
  · rw [List.drop_of_length_le h1, Nat.min_eq_right h1, List.drop_of_length_le (Nat.le_refl _)]; simp

/-- l[lo:hi], whatever block the slice value names. -/
theorem sl_mid {w : World} {B n c lo hi m d : Nat} {A A' : Option Addr} {l : List Int} (h : Sl w B 1 (.slice A n c) n (ints l)) (h1 : lo ≤ hi) (h2 : hi ≤ n) (hm : m = hi - lo) (hd : d = c - lo)
    (hA : lo < hi → ∀ b o, A = some ⟨b, o, none⟩ → A' = some ⟨b, o + lo, none⟩) : Sl w B 1 (.slice A' m d) m (ints ((l.drop lo).take (hi - lo))) := by
  obtain ⟨X, c', hv, hnc, hcm, hl, hx⟩ := h
  injection hv with e1 e2 e3
  subst e1 e3 hm hd
  have hln : l.length = n := by rw [len_ints] at hl; omega
  refine ⟨A', _, rfl, by omega, by omega, by rw [len_ints, List.length_take, List.length_drop]; omega, fun h0 => ?_⟩
  obtain ⟨b, o, rfl, hb, hc⟩ := hx (by omega)
  refine ⟨b, o + lo, hA (by omega) b o rfl, hb, fun j u hu => ?_⟩
  rw [Nat.add_assoc]
  refine hc (lo + j) u ?_
  simp only [ints, List.map_take, List.map_drop] at hu ⊢
  rw [List.getElem?_take] at hu
  split at hu
  · rw [List.getElem?_drop] at hu; exact hu
  · cases hu

set_option maxRecDepth 100000 in
set_option maxHeartbeats 4000000 in
theorem seqCuts_walk (v : Value) (n : Nat) (l : List Int) (i k : Int) (w : World) (hs : Sl w w.heap.size 1 v n (ints l)) (hl : ∀ e ∈ l, wfI e) (hi : 0 ≤ i ∧ i ≤ 255) (hk : 0 ≤ k ∧ k ≤ 255) :
    Calls Try.prog 4 #[v, .int .u8 i, .int .u8 k] w (IsTrue w) := by
  clear hl
  have HS := hid hs
  have eL : l.length = n := by have := hs.len; rw [len_ints] at this; omega
  obtain ⟨A, c, rfl, hnc, hcm, hll, hx⟩ := hs
  have EL := hid eL
  have HX := hid hx
  clear eL hx hll
  obtain ⟨hi1, hi2⟩ := hi
  obtain ⟨hk1, hk2⟩ := hk
  by_cases g1 : (200 : Int) < n
  · go_enter Try.func4, Try.ntmps4
    go_wp2_with fail
    refine (awake_any _).mono ?_; rintro e w' ⟨rfl, hb⟩
    go_wp2
    go_ret
    exact ⟨rfl, hb⟩
  have zl : Hid (sz (ofL l) = n) := hid (by rw [← len_ls, ls_ofL]; exact EL.out)
  have ll : Hid (ls (ofL l) = l) := hid (ls_ofL l)
  have k1 : n ≤ 200 := by omega
  obtain ⟨i, rfl⟩ := Int.eq_ofNat_of_zero_le hi1
  obtain ⟨k, rfl⟩ := Int.eq_ofNat_of_zero_le hk1
  have ab : ∃ a b : Nat, a ≤ b ∧ b ≤ 255 ∧ ((i = a ∧ k = b ∧ i < k) ∨ (i = a ∧ k = b ∧ i = k) ∨ (i = b ∧ k = a ∧ k < i)) := by
    rcases Nat.lt_trichotomy k i with h | h | h
    · exact ⟨k, i, by omega, by omega, .inr (.inr ⟨rfl, rfl, h⟩)⟩
    · exact ⟨i, k, by omega, by omega, .inr (.inl ⟨rfl, rfl, h.symm⟩)⟩
    · exact ⟨i, k, by omega, by omega, .inl ⟨rfl, rfl, h⟩⟩
  obtain ⟨a, b, hab, hb, hor⟩ := ab
  obtain ⟨lo, hlo⟩ : ∃ lo, lo = min a n := ⟨_, rfl⟩
  obtain ⟨hi, hhi⟩ : ∃ hi, hi = min b n := ⟨_, rfl⟩
  have lx : Hid (ls (split (split (ofL l) a).2 ((b : Int) - a)).1 = (l.drop lo).take (hi - lo)) := hid (by
    rw [(ls_split _ _).1, (ls_split _ _).2, ls_ofL, show ((b : Int) - a).toNat = b - a by omega, Int.toNat_natCast, hlo, hhi, ← EL.out, mid_lohi l a b hab])
  have ly : Hid (ls (split (split (ofL l) b).1 a).2 = (l.drop lo).take (hi - lo)) := hid (by
    rw [(ls_split _ _).2, (ls_split _ _).1, ls_ofL, Int.toNat_natCast, Int.toNat_natCast, hlo, hhi, ← EL.out, ← mid_lohi l a b hab, mid_cut l a b hab])
  have p1 := (split_sz (ofL l) a).2
  have p2 := (split_sz (ofL l) b).1
  have p3 := (split_sz (split (ofL l) a).2 ((b : Int) - a)).1
  have p4 := (split_sz (split (ofL l) b).1 a).2
  rw [zl.out] at p1 p2
  have P1 := hid (show sz (split (ofL l) a).2 ≤ 1000000 by omega)
  have P2 := hid (show sz (split (ofL l) b).1 ≤ 1000000 by omega)
  have P3 := hid (show sz (split (split (ofL l) a).2 ((b : Int) - a)).1 ≤ 1000000 by omega)
  have P4 := hid (show sz (split (split (ofL l) b).1 a).2 ≤ 1000000 by omega)
  clear p1 p2 p3 p4
  generalize hls : ofL l = s at *
  have HLS := hid hls
  clear hls
  have hba : (0 : Int) ≤ (b : Int) - a := by omega
  have l1 : lo ≤ hi := by omega
  have l2 : hi ≤ n := by omega
  have HL := hid (And.intro hlo hhi)
  have OR := hid hor
  clear hlo hhi hor
  have hz : 0 < n → ∃ b o, A = some ⟨b, o, none⟩ := fun h => by obtain ⟨b, o, h1, _⟩ := HX.out h; exact ⟨b, o, h1⟩
  have HZ := hid hz
  clear hz
  go_enter Try.func4, Try.ntmps4
  go_upto_region 3 with (fail)
  go_cut [7, 8] (fun s7 s8 wx => s7 = .int .i64 (a : Int) ∧ s8 = .int .i64 (b : Int) ∧ w = wx)
  case first =>
    rcases OR.out with ⟨rfl, rfl, ho⟩ | ⟨rfl, rfl, ho⟩ | ⟨rfl, rfl, ho⟩
    all_goals try subst ho
    all_goals
      clear HL
      go_wp2_with fail
      go_meet
      exact ⟨rfl, rfl, rfl⟩
  case rest =>
  obtain ⟨rfl, rfl, rfl⟩ := hcut
  go_wp2_with fail
  refine (of_any EL.out HS.out (by omega)).mono ?_; rintro e w1 ⟨v1, rfl, h1, b1⟩
  rw [HLS.out] at h1
  have H1 := hid h1
  have B1 := hid b1
  have HS1 := hid (HS.out.call b1)
  clear h1 b1
  go_wp2_with fail
  refine (split_any H1.out (by rw [zl.out]; omega) (by omega)).mono ?_; rintro e w2 ⟨va2, vb2, rfl, hp2, hr2, b2⟩
  have H2 := hid hr2
  have H1 := hid (H1.out.call b2)
  have HS2 := hid (HS1.out.call b2)
  have B2 := hid (Bl.call B1.out b2)
  clear hp2 hr2 b2 HS1
  go_wp2_with fail
  refine (split_any H2.out P1.out (by omega)).mono ?_; rintro e w3 ⟨va3, vb3, rfl, hp3, hr3, b3⟩
  have H3 := hid hp3
  have H1 := hid (H1.out.call b3)
  have HS3 := hid (HS2.out.call b3)
  have B3 := hid (Bl.call B2.out b3)
  clear hp3 hr3 b3 HS2 H2
  go_wp2_with fail
  refine (split_any H1.out (by rw [zl.out]; omega) (by omega)).mono ?_; rintro e w4 ⟨va4, vb4, rfl, hp4, hr4, b4⟩
  have H4 := hid hp4
  have H3 := hid (H3.out.call b4)
  have HS4 := hid (HS3.out.call b4)
  have B4 := hid (Bl.call B3.out b4)
  clear hp4 hr4 b4 HS3 H1
  go_wp2_with fail
  refine (split_any H4.out P2.out (by omega)).mono ?_; rintro e w5 ⟨va5, vb5, rfl, hp5, hr5, b5⟩
  have H5 := hid hr5
  have H3 := hid (H3.out.call b5)
  have HS5 := hid (HS4.out.call b5)
  have B5 := hid (Bl.call B4.out b5)
  clear hp5 hr5 b5 HS4 H4
  go_upto_region 9 with (fail)
  go_cut [14, 15] (fun s14 s15 wx => s14 = .int .i64 (lo : Int) ∧ s15 = .int .i64 (hi : Int) ∧ w5 = wx)
  case first =>
    rcases Nat.lt_or_ge n a with ga | ga <;> rcases Nat.lt_or_ge n b with gb | gb
    all_goals try (exfalso; omega)
    · have E1 : Hid (lo = n) := hid (by have := HL.out.1; omega)
      have E2 : Hid (hi = n) := hid (by have := HL.out.2; omega)
      go_wp2_with fail
      go_meet
      exact ⟨by rw [E1.out], by rw [E2.out], rfl⟩
    · have E1 : Hid (lo = a) := hid (by have := HL.out.1; omega)
      have E2 : Hid (hi = n) := hid (by have := HL.out.2; omega)
      go_wp2_with fail
      go_meet
      exact ⟨by rw [E1.out], by rw [E2.out], rfl⟩
    · have E1 : Hid (lo = a) := hid (by have := HL.out.1; omega)
      have E2 : Hid (hi = b) := hid (by have := HL.out.2; omega)
      go_wp2_with fail
      go_meet
      exact ⟨by rw [E1.out], by rw [E2.out], rfl⟩
  case rest =>
  obtain ⟨rfl, rfl, rfl⟩ := hcut
  have q1 : (0 : Int) ≤ (lo : Int) := by omega
  have q2 : (lo : Int) ≤ (hi : Int) := by omega
  have q3 : (hi : Int) ≤ (c : Int) := by omega
  by_cases hlc : lo = c
  · have e1 : hi = lo := by omega
    have e2 : n = lo := by omega
    subst e1 e2
    have e3 : c = n := by omega
    subst e3
    have HM : Hid (Sl w5 w5.heap.size 1 (.slice A 0 0) 0 (ints ((l.drop c).take (c - c)))) :=
      hid (sl_mid HS5.out l1 l2 (by omega) (by omega) (fun h => absurd h (by omega)))
    have SX : Hid (sameB (ls (split (split s a).2 ((b : Int) - a)).1) ((l.drop c).take (c - c)) = true) := hid (by rw [lx.out]; simp [sameB])
    have SY : Hid (sameB (ls (split (split s b).1 a).2) ((l.drop c).take (c - c)) = true) := hid (by rw [ly.out]; simp [sameB])
    rcases A with _ | A
    · go_wp2_with fail
      go_region_held3 (fun w' => True)
        (trivial)
        (first | (go_at_call 11; (with_reducible refine (list_any (H3.out.cqt (qt_drew _)) P3.out).mono ?_); rintro e w6 ⟨v6, rfl, h6, b6⟩)
               | (go_at_call 11; (with_reducible refine (list_any (H3.out.cqt (qt_of _ _)) P3.out).mono ?_); rintro e w6 ⟨v6, rfl, h6, b6⟩)
               | (go_at_call 10; (with_reducible refine (same_is true SX.out h6 ((HM.out.cqt (qt_drew _)).call b6)).mono ?_); rintro e w7 ⟨rfl, hq7⟩)
               | (go_at_call 10; (with_reducible refine (same_is true SX.out h6 ((HM.out.cqt (qt_of _ _)).call b6)).mono ?_); rintro e w7 ⟨rfl, hq7⟩)
               | (go_at_call 11; (with_reducible refine (list_any (((H5.out.cqt (qt_drew _)).call b6).cqt hq7) P4.out).mono ?_); rintro e w8 ⟨v8, rfl, h8, b8⟩)
               | (go_at_call 11; (with_reducible refine (list_any (((H5.out.cqt (qt_of _ _)).call b6).cqt hq7) P4.out).mono ?_); rintro e w8 ⟨v8, rfl, h8, b8⟩)
               | (go_at_call 10; (with_reducible refine (same_is true SY.out h8 ((((HM.out.cqt (qt_drew _)).call b6).cqt hq7).call b8)).mono ?_); rintro e w9 ⟨rfl, hq9⟩)
               | (go_at_call 10; (with_reducible refine (same_is true SY.out h8 ((((HM.out.cqt (qt_of _ _)).call b6).cqt hq7).call b8)).mono ?_); rintro e w9 ⟨rfl, hq9⟩)
               | (go_at_call 14; (with_reducible refine (height_any (((((H3.out.cqt (qt_drew _)).call b6).cqt hq7).call b8).cqt hq9)).mono ?_); rintro e w' ⟨rfl, rfl⟩)
               | (go_at_call 14; (with_reducible refine (height_any (((((H3.out.cqt (qt_of _ _)).call b6).cqt hq7).call b8).cqt hq9)).mono ?_); rintro e w' ⟨rfl, rfl⟩)
               | (go_at_call 6; (with_reducible refine (awake_any _).mono ?_); rintro e w10 ⟨rfl, hb10⟩))
      go_wp2
      go_ret
      exact ⟨rfl, Bl.call (Bl.qt (Bl.call (Bl.qt (Bl.call (Bl.qt B5.out (by first | exact qt_drew _ | exact qt_of _ _)) b6) hq7) b8) hq9) hb10⟩
    · go_wp2_with fail
      go_region_held3 (fun w' => True)
        (trivial)
        (first | (go_at_call 11; (with_reducible refine (list_any (H3.out.cqt (qt_drew _)) P3.out).mono ?_); rintro e w6 ⟨v6, rfl, h6, b6⟩)
               | (go_at_call 11; (with_reducible refine (list_any (H3.out.cqt (qt_of _ _)) P3.out).mono ?_); rintro e w6 ⟨v6, rfl, h6, b6⟩)
               | (go_at_call 10; (with_reducible refine (same_is true SX.out h6 ((HM.out.cqt (qt_drew _)).call b6)).mono ?_); rintro e w7 ⟨rfl, hq7⟩)
               | (go_at_call 10; (with_reducible refine (same_is true SX.out h6 ((HM.out.cqt (qt_of _ _)).call b6)).mono ?_); rintro e w7 ⟨rfl, hq7⟩)
               | (go_at_call 11; (with_reducible refine (list_any (((H5.out.cqt (qt_drew _)).call b6).cqt hq7) P4.out).mono ?_); rintro e w8 ⟨v8, rfl, h8, b8⟩)
               | (go_at_call 11; (with_reducible refine (list_any (((H5.out.cqt (qt_of _ _)).call b6).cqt hq7) P4.out).mono ?_); rintro e w8 ⟨v8, rfl, h8, b8⟩)
               | (go_at_call 10; (with_reducible refine (same_is true SY.out h8 ((((HM.out.cqt (qt_drew _)).call b6).cqt hq7).call b8)).mono ?_); rintro e w9 ⟨rfl, hq9⟩)
               | (go_at_call 10; (with_reducible refine (same_is true SY.out h8 ((((HM.out.cqt (qt_of _ _)).call b6).cqt hq7).call b8)).mono ?_); rintro e w9 ⟨rfl, hq9⟩)
               | (go_at_call 14; (with_reducible refine (height_any (((((H3.out.cqt (qt_drew _)).call b6).cqt hq7).call b8).cqt hq9)).mono ?_); rintro e w' ⟨rfl, rfl⟩)
               | (go_at_call 14; (with_reducible refine (height_any (((((H3.out.cqt (qt_of _ _)).call b6).cqt hq7).call b8).cqt hq9)).mono ?_); rintro e w' ⟨rfl, rfl⟩)
               | (go_at_call 6; (with_reducible refine (awake_any _).mono ?_); rintro e w10 ⟨rfl, hb10⟩))
      go_wp2
      go_ret
      exact ⟨rfl, Bl.call (Bl.qt (Bl.call (Bl.qt (Bl.call (Bl.qt B5.out (by first | exact qt_drew _ | exact qt_of _ _)) b6) hq7) b8) hq9) hb10⟩
  · have q4 : ¬ (lo : Int) = (c : Int) := by omega
    have q5 : ¬ (c : Int) = (lo : Int) := by omega
    by_cases hn0 : n = 0
    · subst hn0
      have e1 : hi = 0 := by omega
      have e2 : lo = 0 := by omega
      subst e1 e2
      have HM : Hid (Sl w5 w5.heap.size 1 (.slice A 0 c) 0 (ints ((l.drop 0).take (0 - 0)))) :=
        hid (sl_mid HS5.out l1 l2 (by omega) (by omega) (fun h => absurd h (by omega)))
      have SX : Hid (sameB (ls (split (split s a).2 ((b : Int) - a)).1) ((l.drop 0).take (0 - 0)) = true) := hid (by rw [lx.out]; simp [sameB])
      have SY : Hid (sameB (ls (split (split s b).1 a).2) ((l.drop 0).take (0 - 0)) = true) := hid (by rw [ly.out]; simp [sameB])
      rcases A with _ | A
      · go_wp2_with fail
        go_region_held3 (fun w' => True)
          (trivial)
          (first | (go_at_call 11; (with_reducible refine (list_any (H3.out.cqt (qt_drew _)) P3.out).mono ?_); rintro e w6 ⟨v6, rfl, h6, b6⟩)
                 | (go_at_call 11; (with_reducible refine (list_any (H3.out.cqt (qt_of _ _)) P3.out).mono ?_); rintro e w6 ⟨v6, rfl, h6, b6⟩)
                 | (go_at_call 10; (with_reducible refine (same_is true SX.out h6 ((HM.out.cqt (qt_drew _)).call b6)).mono ?_); rintro e w7 ⟨rfl, hq7⟩)
                 | (go_at_call 10; (with_reducible refine (same_is true SX.out h6 ((HM.out.cqt (qt_of _ _)).call b6)).mono ?_); rintro e w7 ⟨rfl, hq7⟩)
                 | (go_at_call 11; (with_reducible refine (list_any (((H5.out.cqt (qt_drew _)).call b6).cqt hq7) P4.out).mono ?_); rintro e w8 ⟨v8, rfl, h8, b8⟩)
                 | (go_at_call 11; (with_reducible refine (list_any (((H5.out.cqt (qt_of _ _)).call b6).cqt hq7) P4.out).mono ?_); rintro e w8 ⟨v8, rfl, h8, b8⟩)
                 | (go_at_call 10; (with_reducible refine (same_is true SY.out h8 ((((HM.out.cqt (qt_drew _)).call b6).cqt hq7).call b8)).mono ?_); rintro e w9 ⟨rfl, hq9⟩)
                 | (go_at_call 10; (with_reducible refine (same_is true SY.out h8 ((((HM.out.cqt (qt_of _ _)).call b6).cqt hq7).call b8)).mono ?_); rintro e w9 ⟨rfl, hq9⟩)
                 | (go_at_call 14; (with_reducible refine (height_any (((((H3.out.cqt (qt_drew _)).call b6).cqt hq7).call b8).cqt hq9)).mono ?_); rintro e w' ⟨rfl, rfl⟩)
                 | (go_at_call 14; (with_reducible refine (height_any (((((H3.out.cqt (qt_of _ _)).call b6).cqt hq7).call b8).cqt hq9)).mono ?_); rintro e w' ⟨rfl, rfl⟩)
                 | (go_at_call 6; (with_reducible refine (awake_any _).mono ?_); rintro e w10 ⟨rfl, hb10⟩))
        go_wp2
        go_ret
        exact ⟨rfl, Bl.call (Bl.qt (Bl.call (Bl.qt (Bl.call (Bl.qt B5.out (by first | exact qt_drew _ | exact qt_of _ _)) b6) hq7) b8) hq9) hb10⟩
      · go_wp2_with fail
        go_region_held3 (fun w' => True)
          (trivial)
          (first | (go_at_call 11; (with_reducible refine (list_any (H3.out.cqt (qt_drew _)) P3.out).mono ?_); rintro e w6 ⟨v6, rfl, h6, b6⟩)
                 | (go_at_call 11; (with_reducible refine (list_any (H3.out.cqt (qt_of _ _)) P3.out).mono ?_); rintro e w6 ⟨v6, rfl, h6, b6⟩)
                 | (go_at_call 10; (with_reducible refine (same_is true SX.out h6 ((HM.out.cqt (qt_drew _)).call b6)).mono ?_); rintro e w7 ⟨rfl, hq7⟩)
                 | (go_at_call 10; (with_reducible refine (same_is true SX.out h6 ((HM.out.cqt (qt_of _ _)).call b6)).mono ?_); rintro e w7 ⟨rfl, hq7⟩)
                 | (go_at_call 11; (with_reducible refine (list_any (((H5.out.cqt (qt_drew _)).call b6).cqt hq7) P4.out).mono ?_); rintro e w8 ⟨v8, rfl, h8, b8⟩)
                 | (go_at_call 11; (with_reducible refine (list_any (((H5.out.cqt (qt_of _ _)).call b6).cqt hq7) P4.out).mono ?_); rintro e w8 ⟨v8, rfl, h8, b8⟩)
                 | (go_at_call 10; (with_reducible refine (same_is true SY.out h8 ((((HM.out.cqt (qt_drew _)).call b6).cqt hq7).call b8)).mono ?_); rintro e w9 ⟨rfl, hq9⟩)
                 | (go_at_call 10; (with_reducible refine (same_is true SY.out h8 ((((HM.out.cqt (qt_of _ _)).call b6).cqt hq7).call b8)).mono ?_); rintro e w9 ⟨rfl, hq9⟩)
                 | (go_at_call 14; (with_reducible refine (height_any (((((H3.out.cqt (qt_drew _)).call b6).cqt hq7).call b8).cqt hq9)).mono ?_); rintro e w' ⟨rfl, rfl⟩)
                 | (go_at_call 14; (with_reducible refine (height_any (((((H3.out.cqt (qt_of _ _)).call b6).cqt hq7).call b8).cqt hq9)).mono ?_); rintro e w' ⟨rfl, rfl⟩)
                 | (go_at_call 6; (with_reducible refine (awake_any _).mono ?_); rintro e w10 ⟨rfl, hb10⟩))
        go_wp2
        go_ret
        exact ⟨rfl, Bl.call (Bl.qt (Bl.call (Bl.qt (Bl.call (Bl.qt B5.out (by first | exact qt_drew _ | exact qt_of _ _)) b6) hq7) b8) hq9) hb10⟩
    obtain ⟨bk, o, rfl⟩ := HZ.out (by omega)
    go_wp2_with fail
    have HM : Hid (Sl w5 w5.heap.size 1 (.slice (some ⟨bk, o + lo, none⟩) (hi - lo) (c - lo)) (hi - lo) (ints ((l.drop lo).take (hi - lo)))) :=
      hid (sl_mid HS5.out l1 l2 rfl rfl (fun _ b' o' e => by injection e with e; injection e with e1 e2 e3; subst e1 e2; rfl))
    have SX : Hid (sameB (ls (split (split s a).2 ((b : Int) - a)).1) ((l.drop lo).take (hi - lo)) = true) := hid (by rw [lx.out]; simp [sameB])
    have SY : Hid (sameB (ls (split (split s b).1 a).2) ((l.drop lo).take (hi - lo)) = true) := hid (by rw [ly.out]; simp [sameB])
    go_region_held3 (fun w' => True)
      (trivial)
      (first | (go_at_call 11; (with_reducible refine (list_any (H3.out.cqt (qt_drew _)) P3.out).mono ?_); rintro e w6 ⟨v6, rfl, h6, b6⟩)
             | (go_at_call 11; (with_reducible refine (list_any (H3.out.cqt (qt_of _ _)) P3.out).mono ?_); rintro e w6 ⟨v6, rfl, h6, b6⟩)
             | (go_at_call 10; (with_reducible refine (same_is true SX.out h6 ((HM.out.cqt (qt_drew _)).call b6)).mono ?_); rintro e w7 ⟨rfl, hq7⟩)
             | (go_at_call 10; (with_reducible refine (same_is true SX.out h6 ((HM.out.cqt (qt_of _ _)).call b6)).mono ?_); rintro e w7 ⟨rfl, hq7⟩)
             | (go_at_call 11; (with_reducible refine (list_any (((H5.out.cqt (qt_drew _)).call b6).cqt hq7) P4.out).mono ?_); rintro e w8 ⟨v8, rfl, h8, b8⟩)
             | (go_at_call 11; (with_reducible refine (list_any (((H5.out.cqt (qt_of _ _)).call b6).cqt hq7) P4.out).mono ?_); rintro e w8 ⟨v8, rfl, h8, b8⟩)
             | (go_at_call 10; (with_reducible refine (same_is true SY.out h8 ((((HM.out.cqt (qt_drew _)).call b6).cqt hq7).call b8)).mono ?_); rintro e w9 ⟨rfl, hq9⟩)
             | (go_at_call 10; (with_reducible refine (same_is true SY.out h8 ((((HM.out.cqt (qt_of _ _)).call b6).cqt hq7).call b8)).mono ?_); rintro e w9 ⟨rfl, hq9⟩)
             | (go_at_call 14; (with_reducible refine (height_any (((((H3.out.cqt (qt_drew _)).call b6).cqt hq7).call b8).cqt hq9)).mono ?_); rintro e w' ⟨rfl, rfl⟩)
             | (go_at_call 14; (with_reducible refine (height_any (((((H3.out.cqt (qt_of _ _)).call b6).cqt hq7).call b8).cqt hq9)).mono ?_); rintro e w' ⟨rfl, rfl⟩)
             | (go_at_call 6; (with_reducible refine (awake_any _).mono ?_); rintro e w10 ⟨rfl, hb10⟩))
    go_wp2
    go_ret
    exact ⟨rfl, Bl.call (Bl.qt (Bl.call (Bl.qt (Bl.call (Bl.qt B5.out (by first | exact qt_drew _ | exact qt_of _ _)) b6) hq7) b8) hq9) hb10⟩
end Go.Proofs.Ytleeomiocofgiaa
