/- Contract of the document's Right. -/
import Derived.Test.YtcbedngimgkcoaaVerH
namespace Go.Proofs.Ytcbedngimgkcoaa
open Go.RowKit
set_option linter.unusedVariables false
set_option linter.unusedSimpArgs false
attribute [local go_sem ↓] Go.wp_at_zero Go.wp_at_succ

/-- No fault is seen among the first i slots. -/
def Pre (l : List (Bool × Int)) (i : Nat) : Prop := ∀ j, (h : j < l.length) → j < i → (l[j].1 = false → l[j].2 = 0) ∧ ∀ k, (h2 : k < l.length) → k < j → ¬ (l[j].1 = true ∧ l[k].1 = true ∧ l[k].2 = l[j].2)
def PreIn (l : List (Bool × Int)) (i j : Nat) : Prop := ∀ (h : i < l.length) k, (h2 : k < l.length) → k < j → ¬ (l[i].1 = true ∧ l[k].1 = true ∧ l[k].2 = l[i].2)
theorem pre_next {l : List (Bool × Int)} {i : Nat} (hp : Pre l i) (h1 : ∀ (h : i < l.length), l[i].1 = false → l[i].2 = 0) (h2 : PreIn l i i) : Pre l (i + 1) := by
  intro j h hj
  rcases Nat.lt_or_ge j i with h3 | h3
  · exact hp j h h3
  · have : j = i := by omega
    subst this
    exact ⟨h1 h, h2 h⟩
theorem dir_pre {l : List (Bool × Int)} : Vt.Dir l ↔ Pre l l.length := by
  constructor
  · intro hd j h _
    refine ⟨fun hu => hd.1 l[j] (List.getElem_mem h) hu, fun k h2 hk ⟨a, b, c⟩ => ?_⟩
    have := hd.2 k j l[j].2 (by rw [List.getElem?_eq_getElem h2, ← c, ← b]) (by rw [List.getElem?_eq_getElem h, ← a])
    omega
  · intro hp
    constructor
    · intro s hs hu
      obtain ⟨i, hi, rfl⟩ := List.getElem_of_mem hs
      exact (hp i hi hi).1 hu
    · have key : ∀ (i j : Nat) (k : Int), j < i → l[i]? = some (true, k) → l[j]? = some (true, k) → False := by
        intro i j k hlt hi hj
        obtain ⟨h1, e1⟩ := List.getElem?_eq_some_iff.1 hi
        obtain ⟨h2, e2⟩ := List.getElem?_eq_some_iff.1 hj
        exact (hp i h1 h1).2 j h2 hlt ⟨by rw [e1], by rw [e2], by rw [e1, e2]⟩
      intro i j k hi hj
      rcases Nat.lt_trichotomy i j with h | h | h
      · exact absurd hi (fun hi => key j i k h hj hi)
      · exact h
      · exact absurd hi (fun hi => key i j k h hi hj)
set_option maxRecDepth 100000 in
set_option maxHeartbeats 8000000 in
theorem rright_is {v : Value} {n : Nat} {l : List (Bool × Int)} {w : World} {B : Nat} (hs : Sl w B 2 v n (sls l)) (b : Bool) (hb : Vt.Ok l ↔ b = true) :
    Calls Try.prog 11 #[v] w fun e w' => e = .returned (.bool b) ∧ Qt w w' := by
  have hl : l.length = n := by have := hs.len; rw [len_sls] at this; omega
  obtain ⟨A, c, rfl, hnc, hcm, hll, hx⟩ := hs
  have hm : n ≤ 9223372036854775807 := by unfold maxLen at hcm; omega
  have HX := hid hx
  have HL := hid hl
  have HB := hid hb
  clear hx hll hl hb hcm
  by_cases h1 : 1 ≤ n
  case neg =>
    have HF : Hid (b = false) := hid (by cases b with | false => rfl | true => have := HB.out.2 rfl; have := this.1; rw [HL.out] at this; omega)
    have i0 : (n : Int) < 1 := by omega
    clear h1
    go_enter Try.func11, Try.ntmps11
    go_wp2
    go_ret
    exact ⟨by rw [HF.out]; rfl, Qt.refl _⟩
  case pos =>
    by_cases h2 : n ≤ 1024
    case neg =>
      have HF : Hid (b = false) := hid (by cases b with | false => rfl | true => have := HB.out.2 rfl; have := this.2.1; rw [HL.out] at this; omega)
      have i0 : ¬ (n : Int) < 1 := by omega
      have i1 : (1024 : Int) < (n : Int) := by omega
      clear h1 h2
      go_enter Try.func11, Try.ntmps11
      go_wp2
      go_ret
      exact ⟨by rw [HF.out]; rfl, Qt.refl _⟩
    case pos =>
      have HOK : Hid (Vt.Ok l ↔ Pre l l.length) := hid (by
        rw [← dir_pre]
        exact ⟨fun h => h.2.2, fun h => ⟨by rw [HL.out]; exact h1, by rw [HL.out]; exact h2, h⟩⟩)
      have i0 : ¬ (n : Int) < 1 := by omega
      have i1 : ¬ (1024 : Int) < (n : Int) := by omega
      go_enter Try.func11, Try.ntmps11
      go_wp2_with fail
      go_loopw [3, 4] (fun iv _ wr => ∃ i : Nat, i ≤ n ∧ iv = .int .i64 (i : Int) ∧ Hid (Pre l i) ∧ Qt w wr) (fun iv _ _ => n - (intOf iv).toNat)
      case atStart => exact ⟨0, Nat.zero_le _, rfl, hid (fun j _ hj => absurd hj (Nat.not_lt_zero _)), Qt.refl _⟩
      case round =>
        obtain ⟨i, hi, rfl, HP, hq⟩ := hrel
        by_cases hlt : i < n
        · have j0 : (i : Int) < (n : Int) := by omega
          have j1 : (0 : Int) ≤ (i : Int) := by omega
          have hil : i < l.length := by rw [HL.out]; exact hlt
          obtain ⟨b6, o6, rfl, hb6, hc6⟩ := HX.out (by omega)
          have HC := hid hc6
          obtain ⟨p0, p1⟩ := sls_cell hc6 hil
          have q0 := (hq.cell ⟨b6, o6 + i * 2, none⟩).trans p0
          have q1 := (hq.cell ⟨b6, o6 + i * 2 + 1, none⟩).trans p1
          obtain ⟨u, hu⟩ : ∃ u, u = l[i].1 := ⟨_, rfl⟩
          obtain ⟨x, hx⟩ : ∃ x, x = l[i].2 := ⟨_, rfl⟩
          rw [← hu] at q0
          rw [← hx] at q1
          have HU : Hid (∀ h : i < l.length, u = l[i].1 ∧ x = l[i].2) := hid (fun _ => ⟨hu, hx⟩)
          clear hu hx p0 p1 hc6
          cases u with
          | false =>
            by_cases hx0 : x = 0
            · subst hx0
              have HI : Hid (PreIn l i i) := hid (fun h k h2 hk hh => by rw [← (HU.out h).1] at hh; cases hh.1)
              have HN : Hid (Pre l (i + 1)) := hid (pre_next HP.out (fun h _ => (HU.out h).2.symm) HI.out)
              go_wp2_with fail
              go_loopw [4] (fun kv wr => ∃ k : Nat, k ≤ i ∧ kv = .int .i64 (k : Int) ∧ Qt w wr) (fun kv _ => i - (intOf kv).toNat)
              case atStart => exact ⟨0, Nat.zero_le _, rfl, hq⟩
              case round =>
                clear hq q0 q1
                obtain ⟨k, hk, rfl, hq⟩ := hrel
                by_cases hki : k < i
                · have k0 : (k : Int) < (i : Int) := by omega
                  have k1 : (0 : Int) ≤ (k : Int) := by omega
                  have k2 : (k : Int) < (n : Int) := by omega
                  obtain ⟨p0, p1⟩ := sls_cell HC.out hil
                  have q0 := (hq.cell ⟨b6, o6 + i * 2, none⟩).trans p0
                  rw [← (HU.out hil).1] at q0
                  clear p0 p1
                  go_wp2_with fail
                  go_quiet (fail)
                  go_wp2
                  go_roundw
                  case rel => exact ⟨k + 1, by omega, by go_num, hq.drewN _⟩
                  case measure => simp [intOf]; omega
                · have k0 : ¬ (k : Int) < (i : Int) := by omega
                  go_wp2_with fail
                  go_roundw
                  case rel => exact ⟨i + 1, by omega, by go_num, HN, hq⟩
                  case measure => simp [intOf]; omega
            · have e1 : (x != 0) = true := by simp [hx0]
              have HF : Hid (b = false) := hid (by
                cases b with
                | false => rfl
                | true =>
                  have := (HOK.out.1 (HB.out.2 rfl)) i hil hil
                  exact absurd ((HU.out hil).2.trans (this.1 (HU.out hil).1.symm)) hx0)
              clear hx0
              go_wp2
              go_ret
              exact ⟨by rw [HF.out]; rfl, hq⟩
          | true =>
            clear q1
            go_wp2_with fail
            go_loopw [4] (fun kv wr => ∃ k : Nat, k ≤ i ∧ kv = .int .i64 (k : Int) ∧ Hid (PreIn l i k) ∧ Qt w wr) (fun kv _ => i - (intOf kv).toNat)
            case atStart => exact ⟨0, Nat.zero_le _, rfl, hid (fun _ _ _ hk => absurd hk (Nat.not_lt_zero _)), hq⟩
            case round =>
              clear hq q0
              obtain ⟨k, hk, rfl, HI, hq⟩ := hrel
              by_cases hki : k < i
              · have k0 : (k : Int) < (i : Int) := by omega
                have k1 : (0 : Int) ≤ (k : Int) := by omega
                have k2 : (k : Int) < (n : Int) := by omega
                have hkl : k < l.length := by rw [HL.out]; omega
                obtain ⟨p0, p1⟩ := sls_cell HC.out hil
                have q0 := (hq.cell ⟨b6, o6 + i * 2, none⟩).trans p0
                have q1 := (hq.cell ⟨b6, o6 + i * 2 + 1, none⟩).trans p1
                rw [← (HU.out hil).1] at q0
                rw [← (HU.out hil).2] at q1
                obtain ⟨p2, p3⟩ := sls_cell HC.out hkl
                have q2 := (hq.cell ⟨b6, o6 + k * 2, none⟩).trans p2
                have q3 := (hq.cell ⟨b6, o6 + k * 2 + 1, none⟩).trans p3
                have HN := hid (fun (h : ¬ (l[k].1 = true ∧ l[k].2 = x)) => (show PreIn l i (k + 1) from fun h1 k' h2' hk' hh => by
                  rcases Nat.lt_or_ge k' k with h3 | h3
                  · exact HI.out h1 k' h2' h3 hh
                  · have : k' = k := by omega
                    subst this
                    exact h ⟨hh.2.1, by rw [hh.2.2, ← (HU.out h1).2]⟩))
                have HFF := hid (fun (h : l[k].1 = true ∧ l[k].2 = x) => (show b = false by
                  cases b with
                  | false => rfl
                  | true =>
                    have := (HOK.out.1 (HB.out.2 rfl)) i hil hil
                    exact absurd ⟨(HU.out hil).1.symm, h.1, by rw [h.2, (HU.out hil).2]⟩ (this.2 k hkl hki)))
                obtain ⟨u', hu'⟩ : ∃ u, u = l[k].1 := ⟨_, rfl⟩
                obtain ⟨x', hx'⟩ : ∃ x, x = l[k].2 := ⟨_, rfl⟩
                rw [← hu'] at q2 HN HFF
                rw [← hx'] at q3 HN HFF
                clear hu' hx' p0 p1 p2 p3 hil hkl
                cases u' with
                | false =>
                  have HN2 := hid (HN.out (by simp))
                  clear q1 q3
                  go_wp2_with fail
                  go_quiet (fail)
                  go_wp2
                  go_roundw
                  case rel => exact ⟨k + 1, by omega, by go_num, HN2, hq.drewN _⟩
                  case measure => simp [intOf]; omega
                | true =>
                  by_cases he : x' = x
                  · have e1 : (x' == x) = true := by simp [he]
                    have HF := hid (HFF.out ⟨rfl, he⟩)
                    clear he
                    go_wp2_with fail
                    go_quiet (fail)
                    go_wp2
                    go_ret
                    exact ⟨by rw [HF.out]; rfl, hq.drewN _⟩
                  · have e1 : (x' == x) = false := by simp [he]
                    have HN2 := hid (HN.out (fun h => he h.2))
                    clear he
                    go_wp2_with fail
                    go_quiet (fail)
                    go_wp2
                    go_roundw
                    case rel => exact ⟨k + 1, by omega, by go_num, HN2, hq.drewN _⟩
                    case measure => simp [intOf]; omega
              · have k0 : ¬ (k : Int) < (i : Int) := by omega
                obtain rfl : k = i := by omega
                have HN : Hid (Pre l (k + 1)) := hid (pre_next HP.out (fun h hf => by rw [← (HU.out h).1] at hf; cases hf) HI.out)
                go_wp2_with fail
                go_roundw
                case rel => exact ⟨k + 1, by omega, by go_num, HN, hq⟩
                case measure => simp [intOf]; omega
        · have j0 : ¬ (i : Int) < (n : Int) := by omega
          obtain rfl : i = n := by omega
          have HF : Hid (b = true) := hid (HB.out.1 (HOK.out.2 (by rw [HL.out]; exact HP.out)))
          go_wp2
          go_ret
          exact ⟨by rw [HF.out]; rfl, hq⟩
end Go.Proofs.Ytcbedngimgkcoaa
