/- The fixed answer (awake). -/
import Derived.Test.YtcbedngimgkcoaaVerK
namespace Go.Proofs.Ytcbedngimgkcoaa
open Go.RowKit
set_option linter.unusedVariables false
set_option linter.unusedSimpArgs false
theorem ok_of {l : List (Bool × Int)} (h : (kd l).isSome = true) : Vt.Ok l := by
  rcases kd_cases l with ⟨d, _, _, h2⟩ | ⟨h1, _⟩
  · exact h2
  · rw [h1] at h; cases h
theorem lit_uks (w : World) (e : TypeId) (l : List Int) (h : l.length ≤ 1000) : Sl (w.alloc (.cells (uks l).toArray e)) (w.alloc (.cells (uks l).toArray e)).heap.size 1 (.slice (some ⟨w.heap.size, 0, none⟩) l.length l.length) l.length (uks l) :=
  (Blk.new w e (uks l)).sl (by simp) (Nat.le_refl _) (by unfold maxLen; omega) (by rw [len_uks]; omega)
set_option maxRecDepth 100000 in
theorem awake_any (w : World) : Calls Try.prog 9 #[] w (IsTrue w) := by
  have HB := hid (Below.refl w.heap.size w)
  go_enter Try.func9, Try.ntmps9
  go_wp2_with fail
  refine (vnew_ok (n := 2) ⟨by decide, by decide⟩ _).mono ?_; rintro e w1 ⟨v1, rfl, s1_, b_⟩
  replace HB := hid (Bl.call HB.out b_)
  have S1 := hid s1_
  clear s1_
  clear b_
  go_wp2_with fail
  refine (vadd_is (n := 2) (l := [(false, 0), (false, 0)]) (k := 9) S1.out [(true, 9), (false, 0)] 0 0 (Vt.add_ok (l := [(false, 0), (false, 0)]) (k := 9) (v := 0) (ok_of (by decide)) (by decide) (by decide)) (by decide) (by decide)).mono ?_; rintro e w2 ⟨v2, rfl, s2_, b_⟩
  replace S1 := hid (S1.out.call b_)
  replace HB := hid (Bl.call HB.out b_)
  have S2 := hid s2_
  clear s2_
  clear b_
  clear S1
  go_wp2_with fail
  refine (vadd_is (n := 2) (l := [(true, 9), (false, 0)]) (k := 5) S2.out [(true, 9), (true, 5)] 1 0 (Vt.add_ok (l := [(true, 9), (false, 0)]) (k := 5) (v := 1) (ok_of (by decide)) (by decide) (by decide)) (by decide) (by decide)).mono ?_; rintro e w3 ⟨v3, rfl, s3_, b_⟩
  replace S2 := hid (S2.out.call b_)
  replace HB := hid (Bl.call HB.out b_)
  have S3 := hid s3_
  clear s3_
  clear b_
  clear S2
  go_wp2_with fail
  refine (vadd_is (n := 2) (l := [(true, 9), (true, 5)]) (k := 7) S3.out [(true, 9), (true, 5)] 0 10 (Vt.add_full (l := [(true, 9), (true, 5)]) (k := 7) (ok_of (by decide)) (by decide) (by decide)) (by decide) (by decide)).mono ?_; rintro e w4 ⟨v4, rfl, s4_, b_⟩
  replace S3 := hid (S3.out.call b_)
  replace HB := hid (Bl.call HB.out b_)
  have S4 := hid s4_
  clear s4_
  clear b_
  go_wp2_with fail
  refine (vrem_is (n := 2) (l := [(true, 9), (true, 5)]) (k := 9) S3.out [(false, 0), (true, 5)] 0 (Vt.rem_ok (l := [(true, 9), (true, 5)]) (k := 9) (v := 0) (ok_of (by decide)) (by decide)) (by decide)).mono ?_; rintro e w5 ⟨v5, rfl, s5_, b_⟩
  replace S3 := hid (S3.out.call b_)
  replace S4 := hid (S4.out.call b_)
  replace HB := hid (Bl.call HB.out b_)
  have S5 := hid s5_
  clear s5_
  clear b_
  go_wp2_with fail
  refine (vadd_is (n := 2) (l := [(false, 0), (true, 5)]) (k := 7) S5.out [(true, 7), (true, 5)] 0 0 (Vt.add_ok (l := [(false, 0), (true, 5)]) (k := 7) (v := 0) (ok_of (by decide)) (by decide) (by decide)) (by decide) (by decide)).mono ?_; rintro e w6 ⟨v6, rfl, s6_, b_⟩
  replace S3 := hid (S3.out.call b_)
  replace S4 := hid (S4.out.call b_)
  replace S5 := hid (S5.out.call b_)
  replace HB := hid (Bl.call HB.out b_)
  have S6 := hid s6_
  clear s6_
  clear b_
  go_wp2_with fail
  refine (vrem_is (n := 2) (l := [(true, 7), (true, 5)]) (k := 9) S6.out [(true, 7), (true, 5)] 7 (Vt.rem_none (l := [(true, 7), (true, 5)]) (k := 9) (ok_of (by decide)) (by decide)) (by decide)).mono ?_; rintro e w7 ⟨v7, rfl, s7_, b_⟩
  replace S3 := hid (S3.out.call b_)
  replace S4 := hid (S4.out.call b_)
  replace S5 := hid (S5.out.call b_)
  replace S6 := hid (S6.out.call b_)
  replace HB := hid (Bl.call HB.out b_)
  have S7 := hid s7_
  clear s7_
  clear b_
  go_wp2_with fail
  refine (vfind_is (n := 2) (l := [(true, 7), (true, 5)]) (k := 5) S6.out 1 true (by decide) (by decide)).mono ?_; rintro e w8 ⟨rfl, b_⟩
  replace S3 := hid (S3.out.call b_)
  replace S4 := hid (S4.out.call b_)
  replace S5 := hid (S5.out.call b_)
  replace S6 := hid (S6.out.call b_)
  replace S7 := hid (S7.out.call b_)
  replace HB := hid (Bl.call HB.out b_)
  clear b_
  go_wp2_with fail
  refine (vkeys_is (n := 2) (l := [(true, 7), (true, 5)]) S6.out [5, 7] 2 (by decide) (by decide)).mono ?_; rintro e w9 ⟨v8, rfl, s8_, b_⟩
  replace S3 := hid (S3.out.call b_)
  replace S4 := hid (S4.out.call b_)
  replace S5 := hid (S5.out.call b_)
  replace S6 := hid (S6.out.call b_)
  replace S7 := hid (S7.out.call b_)
  replace HB := hid (Bl.call HB.out b_)
  have S8 := hid s8_
  clear s8_
  clear b_
  have b := bel_new w9 (.cells (uks [5, 7]).toArray 23)
  have SL : Hid (Sl (w9.alloc (.cells #[.int .u64 5, .int .u64 7] 23)) (w9.alloc (.cells #[.int .u64 5, .int .u64 7] 23)).heap.size 1 (.slice (some ⟨w9.heap.size, 0, none⟩) 2 2) 2 (uks [5, 7])) := hid (lit_uks _ _ [5, 7] (by decide))
  replace S3 := hid (S3.out.call b)
  replace S4 := hid (S4.out.call b)
  replace S5 := hid (S5.out.call b)
  replace S6 := hid (S6.out.call b)
  replace S7 := hid (S7.out.call b)
  replace S8 := hid (S8.out.call b)
  replace HB := hid (Bl.call HB.out b)
  clear b
  go_wp2_with fail
  refine (uksame_is true (by decide) S8.out SL.out).mono ?_; rintro e w10 ⟨rfl, b_⟩
  replace b_ := b_.bel
  replace S3 := hid (S3.out.call b_)
  replace S4 := hid (S4.out.call b_)
  replace S5 := hid (S5.out.call b_)
  replace S6 := hid (S6.out.call b_)
  replace S7 := hid (S7.out.call b_)
  replace S8 := hid (S8.out.call b_)
  replace SL := hid (SL.out.call b_)
  replace HB := hid (Bl.call HB.out b_)
  clear b_
  go_wp2_with fail
  refine (vright_is (n := 2) (l := [(true, 7), (true, 5)]) S6.out true (by decide)).mono ?_; rintro e w11 ⟨rfl, b_⟩
  replace S3 := hid (S3.out.call b_)
  replace S4 := hid (S4.out.call b_)
  replace S5 := hid (S5.out.call b_)
  replace S6 := hid (S6.out.call b_)
  replace S7 := hid (S7.out.call b_)
  replace S8 := hid (S8.out.call b_)
  replace SL := hid (SL.out.call b_)
  replace HB := hid (Bl.call HB.out b_)
  clear b_
  go_wp2
  go_ret
  exact ⟨rfl, HB.out⟩
end Go.Proofs.Ytcbedngimgkcoaa
