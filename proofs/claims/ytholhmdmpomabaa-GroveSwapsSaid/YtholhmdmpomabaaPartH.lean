/- Contract of part.Of. -/
import Derived.Test.YtholhmdmpomabaaPartG
import Derived.Deep.RegionHeld3
namespace Go.Proofs.Ytholhmdmpomabaa
open Go.RowKit Pt
set_option linter.unusedVariables false

def OfPost (n : Nat) (l : List Ed) (w : World) (e : Ending) (w' : World) : Prop :=
  Below w.heap.size w w' ∧ ((mayB n l = true ∧ ∃ v', e = .returned (.tuple #[v', .int .i64 0]) ∧ w'.ownsRow w.heap.size 3 1 v' n (ints (partOf n (uv l)))) ∨ (mayB n l = false ∧ e = .returned (.tuple #[.slice none 0 0, .int .i64 1])))
def OfRel (n : Nat) (l : List Ed) (k0 : Nat) (w : World) (i : Value) (wr : World) : Prop :=
  ∃ k : Nat, k ≤ l.length ∧ i = .int .i64 k ∧ (∀ j (h : j < l.length), j < k → edB n l[j] = true) ∧ Below w.heap.size w wr ∧ ∃ zs, Blk wr k0 3 (ints zs) ∧ Uf zs (partOf n ((uv l).take k))

theorem mayB_bad {n : Int} {l : List Ed} {k : Nat} (h : k < l.length) (hb : edB n l[k] = false) : mayB n l = false := by
  unfold mayB; rw [List.all_eq_false]; exact ⟨l[k], List.getElem_mem _, by simp [hb]⟩
theorem mayB_good {n : Int} {l : List Ed} (h : ∀ j (h : j < l.length), j < l.length → edB n l[j] = true) : mayB n l = true := by
  unfold mayB; rw [List.all_eq_true]; intro e he
  obtain ⟨j, hj, rfl⟩ := List.getElem_of_mem he
  exact h j hj hj

def RootInv (k n : Nat) (P : List Int) (W0 w : World) : Prop := ∃ zs, Blk w k 3 (ints zs) ∧ Uf zs P ∧ zs.length = n ∧ Only k W0 w
theorem root_inv {k n : Nat} {P : List Int} {v : Int} {W0 w : World} (hm : n ≤ maxLen) (hv : InR P.length v) (hI : RootInv k n P W0 w) :
    Calls Try.prog 22 #[.slice (some ⟨k, 0, none⟩) n n, .int .i64 v] w fun e w' => e = .returned (.int .i64 (g P v)) ∧ RootInv k n P W0 w' ∧ Only k w w' := by
  obtain ⟨zs, hb, hu, hn, h0⟩ := hI
  exact (root_any k n zs P v w hn hm hb hu hv).mono fun e w' ⟨he, zs', hb', hu', ho⟩ => ⟨he, ⟨zs', hb', hu', by rw [hu'.1, ← hu.1, hn], h0.trans ho⟩, ho⟩
theorem Only.cell {k : Nat} {w w' : World} (h : Only k w w') {b o : Nat} (hb : b < w.heap.size) (hne : b ≠ k) : w'.cell? ⟨b, o, none⟩ = w.cell? ⟨b, o, none⟩ :=
  World.cell?_of_block (h.block b hb (fun e => hne (by injection e)))

theorem Only.keepc {k : Nat} {w w' : World} (h : Only k w w') {b o : Nat} {v : Value} (hne : b ≠ k) (hc : w.cell? ⟨b, o, none⟩ = some v) : w'.cell? ⟨b, o, none⟩ = some v :=
  World.grownBy.cell h hc (fun e => hne (by injection e))
theorem Only.drew {k : Nat} {w w' : World} (h : Only k w w') : Only k w w'.drew := ⟨h.os, h.tape, h.output, h.size, h.block⟩
theorem Only.alloc (k : Nat) (w : World) (o : Obj) : Only k w (w.alloc o) := World.grownBy_alloc w o _

set_option maxHeartbeats 1000000 in
theorem of_any (n : Nat) (hn : n ≤ 1024) (v : Value) (m B : Nat) (l : List Ed) (w : World) (hs : Sl w B 3 v m (eds l)) (hB : B ≤ w.heap.size) :
    Calls Try.prog 10 #[.int .i64 n, v] w (OfPost n l w) := by
  obtain ⟨A, c, rfl, hnc, hcm, hl, hx⟩ := hs
  have hm : l.length = m := by rw [len_eds] at hl; omega
  subst hm
  have hm : l.length ≤ 9223372036854775807 := by unfold maxLen at hcm; omega
  clear hl hcm
  have HX := hid hx
  clear hx
  have n0 : (0 : Int) ≤ n := by omega
  have n1 : (n : Int) ≤ 1024 := by omega
  go_enter Try.func10, Try.ntmps10
  go_wp2_with fail
  refine (single_any n (by omega) _).mono ?_; rintro e w1 ⟨rfl, hb, hbel, hlt1⟩
  go_wp2_with fail
  go_loopw [22] (OfRel n l w.heap.size w) (fun i _ => l.length - (intOf i).toNat)
  case atStart => exact ⟨0, Nat.zero_le _, rfl, fun j _ hj => by omega, hbel, idl n, hb, Uf_id n⟩
  case round =>
    obtain ⟨k, hk, rfl, hall, hbel', zs, hb', hu⟩ := hrel
    clear hb hbel hlt1
    have HA := hid hall
    have HU := hid hu
    clear hall hu
    by_cases hlt : k < l.length
    · obtain ⟨b, o, rfl, hbB, hc⟩ := HX.out (by omega)
      obtain ⟨d1, d2, d3⟩ := eds_cell hc hlt
      have c1 := (hbel'.cell (p := ⟨b, o + k * 3, none⟩) (by show b < _; omega)).trans d1
      have c2 := (hbel'.cell (p := ⟨b, o + k * 3 + 1, none⟩) (by show b < _; omega)).trans d2
      have c3 := (hbel'.cell (p := ⟨b, o + k * 3 + 2, none⟩) (by show b < _; omega)).trans d3
      have HE : Hid (edB n l[k] = (placeB n l[k].1 && placeB n l[k].2.1)) := hid rfl
      have HV : Hid ((uv l).take (k + 1) = (uv l).take k ++ [(l[k].1, l[k].2.1)]) := hid (by rw [take_one _ (by simp [uv]; exact hlt)]; simp [uv])
      clear d1 d2 d3 hc
      generalize l[k].1 = x at *
      generalize l[k].2.1 = y at *
      generalize l[k].2.2 = z at *
      cases hp : placeB n x
      · have HP := hid hp
        clear hp
        go_wp2_with fail
        refine (place_is false HP.out _).mono ?_; rintro e w' ⟨rfl, rfl⟩
        go_wp2
        go_ret2
        exact ⟨hbel'.alloc hbel'.size _, .inr ⟨mayB_bad hlt (by rw [HE.out, HP.out]; rfl), rfl⟩⟩
      · have HP := hid hp
        clear hp
        cases hp2 : placeB n y
        · have HP2 := hid hp2
          clear hp2
          go_wp2_with fail
          refine (place_is true HP.out _).mono ?_; rintro e w' ⟨rfl, rfl⟩
          go_wp2_with fail
          refine (place_is false HP2.out _).mono ?_; rintro e w' ⟨rfl, rfl⟩
          go_wp2
          go_ret2
          exact ⟨hbel'.alloc hbel'.size _, .inr ⟨mayB_bad hlt (by rw [HE.out, HP.out, HP2.out]; rfl), rfl⟩⟩
        · have HP2 := hid hp2
          clear hp2
          go_wp2_with fail
          refine (place_is true HP.out _).mono ?_; rintro e w' ⟨rfl, rfl⟩
          go_wp2_with fail
          refine (place_is true HP2.out _).mono ?_; rintro e w' ⟨rfl, rfl⟩
          go_wp2_with fail
          have hx1 := hid ((placeB_iff _ _).1 HP.out)
          have hy1 := hid ((placeB_iff _ _).1 HP2.out)
          have hlP : (partOf n ((uv l).take k)).length = n := len_partOf _ _
          have HlP := hid hlP
          have I1 : RootInv w.heap.size n (partOf n ((uv l).take k)) wr (wr.alloc (Obj.cells #[Value.int IntKind.i64 x, Value.int IntKind.i64 y, Value.int IntKind.i64 z] 29)).drew :=
            ⟨zs, hb'.alloc _, HU.out, by rw [HU.out.1, hlP], (Only.alloc _ _ _).drew⟩
          have hne : wr.heap.size ≠ w.heap.size := by have := hb'.lt; omega
          have HB := hid hb'
          clear hlP hb'
          go_region_held3 (fun w' => w'.cell? ⟨wr.heap.size, 0, none⟩ = some (.int .i64 x) ∧ w'.cell? ⟨wr.heap.size, 1, none⟩ = some (.int .i64 y))
            (first | go_keep | (go_split_ands; refine ⟨?_, ?_⟩ <;> (refine ho.keepc hne ?_; assumption)))
            (first | (go_at_call 22; refine (root_inv (P := partOf n ((uv l).take k)) (W0 := wr) (by unfold maxLen; omega) (by rw [HlP.out]; first | exact hx1.out | exact hy1.out) (by first | exact I1 | assumption)).mono ?_; rintro e w' ⟨rfl, I2, ho⟩))
          obtain ⟨zs2, hb2, hu2, hn2, hO⟩ := I2
          have hbel2 : Below w.heap.size w w' := hbel'.trans (hO.below (Nat.le_refl _) hbel'.size)
          clear ho hO I1 hne c1 c2 c3
          have hMay : MayL n ((uv l).take (k + 1)) := by
            intro e he
            rw [HV.out] at he
            rcases List.mem_append.1 he with he | he
            · rw [← uv_take] at he
              obtain ⟨d, hd, rfl⟩ := List.mem_map.1 he
              obtain ⟨j, hj, rfl⟩ := List.getElem_of_mem hd
              have hj' : j < k ∧ j < l.length := by simp at hj; omega
              have := HA.out j hj'.2 hj'.1
              unfold edB at this
              simp only [Bool.and_eq_true, placeB_iff] at this
              simpa using this
            · simp at he; subst he; exact ⟨hx1.out, hy1.out⟩
          have hMay0 : MayL n ((uv l).take k) := by
            have := hMay.take k
            rwa [List.take_take, Nat.min_eq_left (by omega)] at this
          have hRt := Rt_partOf hMay0
          have HN : Hid (Uf (zs2.set (max (g (partOf n ((uv l).take k)) x) (g (partOf n ((uv l).take k)) y)).toNat (min (g (partOf n ((uv l).take k)) x) (g (partOf n ((uv l).take k)) y))) (partOf n ((uv l).take (k + 1)))) := hid (by
            rw [HV.out, partOf_snoc]
            exact hu2.union hRt (by rw [HlP.out]; exact hx1.out) (by rw [HlP.out]; exact hy1.out))
          have ra := hRt.inr (v := x) (by rw [HlP.out]; exact hx1.out)
          have rb := hRt.inr (v := y) (by rw [HlP.out]; exact hy1.out)
          rw [HlP.out] at ra rb
          obtain ⟨a0, a1⟩ := ra
          obtain ⟨b0, b1⟩ := rb
          have HAll : Hid (∀ j (h : j < l.length), j < k + 1 → edB n l[j] = true) := hid (fun j hj hjk => by
            by_cases h : j = k
            · subst h; rw [HE.out, HP.out, HP2.out]; rfl
            · exact HA.out j hj (by omega))
          clear hMay hMay0 hRt hu2 HV HE HA HP HP2 hx1 hy1 HU
          generalize hPa : g (partOf n ((uv l).take k)) x = p1 at *
          generalize hPb : g (partOf n ((uv l).take k)) y = p2 at *
          clear hPa hPb HlP
          have cM : ∀ t : Int, 0 ≤ t → t < n → w'.cell? ⟨w.heap.size, t.toNat, none⟩ = some (.int .i64 (zs2.getD t.toNat 0)) := fun t h0 h1 => by
            rw [hb2.cell, ints_at _ _ (by omega)]
          have ca := cM p1 a0 a1
          have cb := cM p2 b0 b1
          have fa := hb2.frozen p1.toNat
          have fb := hb2.frozen p2.toNat
          have HB2 := hid hb2
          clear cM hb2 hn2
          generalize zs2.getD p1.toNat 0 = v1 at ca
          generalize zs2.getD p2.toNat 0 = v2 at cb
          rcases Int.lt_trichotomy p1 p2 with hc | hc | hc
          · have e1 : ¬ p2 < p1 := by omega
            go_wp2
            go_roundw
            case rel =>
              refine ⟨k + 1, by omega, by go_num, HAll.out, hbel2.setCell (Nat.le_refl _) _, _, ?_, HN.out⟩
              rw [Int.max_eq_right (by omega), Int.min_eq_left (by omega), ← ints_set]
              exact HB2.out.put _ _
            case measure => simp [intOf]; omega
          · subst hc
            go_wp2
            go_roundw
            case rel =>
              refine ⟨k + 1, by omega, by go_num, HAll.out, hbel2.setCell (Nat.le_refl _) _, _, ?_, HN.out⟩
              rw [Int.max_eq_right (by omega), Int.min_eq_left (by omega), ← ints_set]
              exact HB2.out.put _ _
            case measure => simp [intOf]; omega
          · have e1 : ¬ p1 < p2 := by omega
            go_wp2
            go_roundw
            case rel =>
              refine ⟨k + 1, by omega, by go_num, HAll.out, hbel2.setCell (Nat.le_refl _) _, _, ?_, HN.out⟩
              rw [Int.max_eq_left (by omega), Int.min_eq_right (by omega), ← ints_set]
              exact HB2.out.put _ _
            case measure => simp [intOf]; omega
    · have hkn : k = l.length := by omega
      subst hkn
      have hP : (uv l).take l.length = uv l := by rw [List.take_of_length_le]; simp [uv]
      have hu := HU.out
      rw [hP] at hu
      have hlP : (partOf n (uv l)).length = n := len_partOf _ _
      have HlP := hid hlP
      have HMay := hid (mayB_good HA.out)
      have hF := hid hu.flat
      clear hP hu hlP HU HA
      generalize hPP : partOf n (uv l) = P at *
      have HPP := hid hPP
      clear hPP
      go_wp2
      go_loopw [57] (fun i wr2 => ∃ j : Nat, j ≤ n ∧ i = .int .i64 j ∧ Below w.heap.size w wr2 ∧ ∃ ys, Blk wr2 w.heap.size 3 (ints ys) ∧ Hid (Flat ys P j)) (fun i _ => n - (intOf i).toNat)
      case atStart => exact ⟨0, Nat.zero_le _, rfl, hbel', zs, hb', hF⟩
      case round =>
        obtain ⟨j, hj, rfl, hbel2, ys, hb2, hFl⟩ := hrel
        clear hb' hF hbel'
        by_cases hjn : j < n
        · have hly : ys.length = n := by rw [hFl.out.1.1]; exact HlP.out
          have hj1 := hFl.out.1.2 (j : Int) ⟨by omega, by rw [HlP.out]; omega⟩
          have c1 : wr.cell? ⟨w.heap.size, j, none⟩ = some (.int .i64 (g ys (j : Int))) := by
            rw [hb2.cell, ints_at _ _ (by omega)]; simp [g]
          have c2 : wr.cell? ⟨w.heap.size, (g ys (j : Int)).toNat, none⟩ = some (.int .i64 (g ys (g ys (j : Int)))) := by
            rw [hb2.cell, ints_at _ _ (by omega)]; rfl
          have f1 := hb2.frozen j
          have x0 := hj1.1
          have x1 := hj1.2.1
          have HS := hid (hFl.out.step (by rw [HlP.out]; exact hjn))
          have HB := hid hb2
          clear hj1 hly hb2
          generalize g ys (g ys (j : Int)) = y at *
          generalize g ys (j : Int) = x at *
          go_wp2
          go_roundw
          case rel =>
            refine ⟨j + 1, by omega, by go_num, hbel2.setCell (Nat.le_refl _) _, _, ?_, HS⟩
            rw [← ints_set]
            exact HB.out.put _ _
          case measure => simp [intOf]; omega
        · have hjn : j = n := by omega
          subst hjn
          have hFd := hFl.out
          rw [← HlP.out] at hFd
          have hyP := hFd.done
          have HY := hid hyP
          clear hFd hyP
          go_wp2
          go_ret2
          refine ⟨hbel2, .inl ⟨HMay.out, _, rfl, ?_⟩⟩
          rw [HPP.out, ← HY.out]
          exact own_of_blk hb2 (Nat.le_refl _) (by unfold maxLen; omega) (by rw [len_ints, HY.out, HlP.out]; omega)
end Go.Proofs.Ytholhmdmpomabaa
