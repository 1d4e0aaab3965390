/- Contract of awake: the fixed answer is true. -/
import Derived.Test.YtleeomiocofgiaaSeqH
import Derived.Test.YtleeomiocofgiaaSeqSame
namespace Go.Proofs.Ytleeomiocofgiaa
open Go.RowKit Sq
set_option linter.unusedVariables false

theorem same_is {v v' : Value} {n n' B B' : Nat} {p q : List Int} {w : World} (b : Bool) (h : sameB p q = b) (hs : Sl w B 1 v n (ints p)) (hs' : Sl w B' 1 v' n' (ints q)) :
    Calls Try.prog 10 #[v, v'] w fun e w' => e = .returned (.bool b) ∧ Qt w w' := by
  subst h; exact same_any _ _ _ _ _ _ _ _ _ hs hs'
theorem of_any {v : Value} {n : Nat} {p : List Int} {w : World} (hn : p.length = n) (hs : Sl w w.heap.size 1 v n (ints p)) (hle : n ≤ 1000000) :
    Calls Try.prog 7 #[v] w (TrPost w (ofL p)) := of_said n v p w hn hs hle
theorem at_is {v : Option Addr} {t : Tr Int} {B : Nat} {w : World} {i : Int} (x : Int) (h : IsTr w B v t) (hi : 0 ≤ i) (hx : (ls t)[i.toNat]? = some x) (hs : sz t ≤ 1000000000) :
    Calls Try.prog 9 #[.pointer v, .int .i64 i] w fun e w' => e = .returned (.tuple #[.int .i64 x, .bool true]) ∧ w = w' := by
  obtain ⟨k, rfl⟩ := Int.eq_ofNat_of_zero_le hi
  have hk : k < sz t := by rw [← len_ls]; exact (List.getElem?_eq_some_iff.1 hx).1
  have := at_in h hk hs
  rw [atT_ls] at this
  simp only [Int.toNat_natCast] at hx
  rw [hx] at this
  exact this

set_option maxRecDepth 100000 in
set_option maxHeartbeats 2000000 in
theorem awake_any (w : World) : Calls Try.prog 6 #[] w (IsTrue w) := by
  obtain ⟨s, hs⟩ : ∃ s, s = ofL [(3 : Int), 1, 2] := ⟨_, rfl⟩
  have hls : ls s = [3, 1, 2] := by rw [hs, ls_ofL]
  have hsz : sz s = 3 := by rw [← len_ls, hls]; rfl
  have hht : ht s = 2 := by rw [hs]; rfl
  have ha : ls (split s 1).1 = [3] := by rw [(ls_split s 1).1, hls]; rfl
  have hb : ls (split s 1).2 = [1, 2] := by rw [(ls_split s 1).2, hls]; rfl
  have hj : ls (join (split s 1).2 (split s 1).1) = [1, 2, 3] := by rw [ls_join, ha, hb]; rfl
  have ka : sz (split s 1).1 ≤ 1000000 := by rw [← len_ls, ha]; decide
  have kb : sz (split s 1).2 ≤ 1000000 := by rw [← len_ls, hb]; decide
  have kj : sz (join (split s 1).2 (split s 1).1) ≤ 1000000 := by rw [← len_ls, hj]; decide
  have FA := hid ha
  have FJ := hid hj
  have FS := hid hls
  have FZ := hid hsz
  have FH := hid hht
  have KA := hid ka
  have KB := hid kb
  have KJ := hid kj
  clear ha hb hj hls hsz hht ka kb kj
  go_enter Try.func6, Try.ntmps6
  go_wp2_with fail
  refine (of_any rfl (lit_ints w _ [3, 1, 2] (by decide)) (by decide)).mono ?_
  rintro e w1 ⟨v1, rfl, hT1, hb1⟩
  have HB1 := hid (Bl.call (bel_new w _) hb1)
  rw [← hs] at hT1
  have HT1 := hid hT1
  clear hT1 hb1 hs
  go_wp2_with fail
  refine (split_any (i := 1) HT1.out (by rw [FZ.out]; decide) (by decide)).mono ?_
  rintro e w2 ⟨va, vb, rfl, hA, hB, hb2⟩
  have HB2 := hid (Bl.call HB1.out hb2)
  have HT2 := hid (HT1.out.call hb2)
  have HA2 := hid hA
  have HC2 := hid hB
  clear hA hB hb2 HT1 HB1
  go_wp2_with fail
  refine (at_is (i := 2) 2 HT2.out (by decide) (by rw [FS.out]; rfl) (by rw [FZ.out]; decide)).mono ?_
  rintro e w' ⟨rfl, rfl⟩
  go_wp2_with fail
  refine (at_out (i := 3) HT2.out (by rw [FZ.out]; decide)).mono ?_
  rintro e w' ⟨rfl, rfl⟩
  go_wp2_with fail
  refine (list_any HA2.out KA.out).mono ?_
  rintro e w3 ⟨v3, rfl, hL3, hb3⟩
  have HB3 := hid (Bl.call HB2.out hb3)
  have HT3 := hid (HT2.out.call hb3)
  have HA3 := hid (HA2.out.call hb3)
  have HC3 := hid (HC2.out.call hb3)
  rw [FA.out] at hL3
  have HL3 := hid hL3
  clear hL3 hb3 HT2 HA2 HC2 HB2
  go_wp2_with fail
  refine (same_is true (by decide) (HL3.out.new _) (lit_ints w3 _ [3] (by decide))).mono ?_
  rintro e w4 ⟨rfl, hq4⟩
  have HB4 := hid (Bl.qt (Bl.new HB3.out _) hq4)
  have HT4 := hid ((HT3.out.new _).cqt hq4)
  have HA4 := hid ((HA3.out.new _).cqt hq4)
  have HC4 := hid ((HC3.out.new _).cqt hq4)
  clear hq4 HL3 HT3 HA3 HC3 HB3
  go_wp2_with fail
  refine (join_any HC4.out HA4.out KB.out KA.out).mono ?_
  rintro e w5 ⟨v5, rfl, hJ5, hb5⟩
  have HB5 := hid (Bl.call HB4.out hb5)
  have HT5 := hid (HT4.out.call hb5)
  have HJ5 := hid hJ5
  clear hJ5 hb5 HT4 HA4 HC4 HB4
  go_wp2_with fail
  refine (list_any HJ5.out KJ.out).mono ?_
  rintro e w6 ⟨v6, rfl, hL6, hb6⟩
  have HB6 := hid (Bl.call HB5.out hb6)
  have HT6 := hid (HT5.out.call hb6)
  rw [FJ.out] at hL6
  have HL6 := hid hL6
  clear hL6 hb6 HT5 HJ5 HB5
  go_wp2_with fail
  refine (same_is true (by decide) (HL6.out.new _) (lit_ints w6 _ [1, 2, 3] (by decide))).mono ?_
  rintro e w7 ⟨rfl, hq7⟩
  have HB7 := hid (Bl.qt (Bl.new HB6.out _) hq7)
  have HT7 := hid ((HT6.out.new _).cqt hq7)
  have HL7 := hid (len_any HT7.out)
  have HH7 := hid (height_any HT7.out)
  rw [FZ.out] at HL7
  rw [FH.out] at HH7
  clear hq7 HL6 HT6 HB6
  go_wp2_with fail
  refine HL7.out.mono ?_
  rintro e w' ⟨rfl, rfl⟩
  go_wp2_with fail
  refine HH7.out.mono ?_
  rintro e w' ⟨rfl, rfl⟩
  go_wp2
  go_ret
  exact ⟨rfl, HB7.out⟩
end Go.Proofs.Ytleeomiocofgiaa
