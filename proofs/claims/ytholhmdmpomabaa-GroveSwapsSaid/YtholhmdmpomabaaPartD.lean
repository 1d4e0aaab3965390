/- Contracts of part.Many, part.Class, part.Refines. -/
import Derived.Test.YtholhmdmpomabaaPartC
namespace Go.Proofs.Ytholhmdmpomabaa
open Go.RowKit Pt
set_option linter.unusedVariables false

theorem right_is {v : Value} {n B : Nat} {p : List Int} {w : World} (b : Bool) (h : rightB p = b) (hs : Sl w B 1 v n (ints p)) :
    Calls Try.prog 23 #[v] w fun e w' => e = .returned (.bool b) ∧ w = w' := by
  rw [← h]; exact right_any v n B p w hs

theorem many_any (v : Value) (n B : Nat) (p : List Int) (w : World) (hs : Sl w B 1 v n (ints p)) :
    Calls Try.prog 14 #[v] w fun e w' => e = .returned (.int .i64 (manyZ p)) ∧ w = w' := by
  have HS := hid hs
  obtain ⟨A, c, rfl, hnc, hcm, hl, hx⟩ := hs
  have hn : p.length = n := by rw [len_ints] at hl; omega
  subst hn
  have hm : p.length ≤ 9223372036854775807 := by unfold maxLen at hcm; omega
  clear hl hcm
  have HX := hid hx
  clear hx
  cases hr : rightB p
  · have HR := hid hr
    clear hr
    go_enter Try.func14, Try.ntmps14
    go_wp2_with (go_at_call 23; refine (right_is false HR.out HS.out).mono ?_; rintro e w' ⟨rfl, rfl⟩)
    go_ret
    exact ⟨ret_int (by unfold manyZ; rw [HR.out]; rfl), rfl⟩
  · have HR := hid hr
    clear hr
    go_enter Try.func14, Try.ntmps14
    go_wp2_with (go_at_call 23; refine (right_is true HR.out HS.out).mono ?_; rintro e w' ⟨rfl, rfl⟩)
    go_loop [3, 11] (fun m i => ∃ k : Nat, k ≤ p.length ∧ i = .int .i64 k ∧ m = .int .i64 (cntK p k)) (fun _ i => p.length - (intOf i).toNat)
    case atStart => exact ⟨0, Nat.zero_le _, rfl, rfl⟩
    case round =>
      obtain ⟨k, hk, rfl, rfl⟩ := hrel
      have hck := cntK_le p k
      by_cases hlt : k < p.length
      · obtain ⟨b, o, rfl, hb, hc⟩ := HX.out (by omega)
        have c1 := ints_cell hc hlt
        clear hc
        have hgx : g p (k : Int) = p.getD k 0 := by simp [g]
        generalize p.getD k 0 = x at c1 hgx
        have HG := hid hgx
        have HC := hid (cntK_step p k)
        clear hgx
        generalize cntK p k = m at *
        by_cases he : (k : Int) = x
        · have e1 : ((k : Int) == x) = true := by simp [he]
          have HE := hid he
          clear he
          go_wp2
          go_round
          case rel => exact ⟨k + 1, by omega, by go_num, by rw [HC.out, if_pos (by rw [HG.out, HE.out])]; go_num⟩
          case measure => simp [intOf]; omega
        · have e1 : ((k : Int) == x) = false := by simp [he]
          have HE := hid he
          clear he
          go_wp2
          go_round
          case rel => exact ⟨k + 1, by omega, by go_num, by rw [HC.out, if_neg (by rw [HG.out]; exact fun h => HE.out h.symm)]; go_num⟩
          case measure => simp [intOf]; omega
      · have hkn : k = p.length := by omega
        subst hkn
        go_wp2
        go_ret
        exact ⟨ret_int (by unfold manyZ; rw [HR.out, cntK_all]; rfl), rfl⟩

theorem class_any (v : Value) (n B : Nat) (p : List Int) (u : Int) (w : World) (hs : Sl w B 1 v n (ints p)) (hB : B ≤ w.heap.size) (hr : n ≤ 17592186044416) :
    Calls Try.prog 13 #[v, .int .i64 u] w fun e w' => ∃ v', e = .returned v' ∧ w'.ownsRow w.heap.size 3 1 v' (classL p u).length (ints (classL p u)) ∧ Below w.heap.size w w' := by
  have HS := hid hs
  obtain ⟨A, c, rfl, hnc, hcm, hl, hx⟩ := hs
  have hn : p.length = n := by rw [len_ints] at hl; omega
  subst hn
  clear hl hcm
  have HX := hid hx
  clear hx
  cases hr : rightB p
  · have HR := hid hr
    clear hr
    go_enter Try.func13, Try.ntmps13
    go_wp2_with (go_at_call 23; refine (right_is false HR.out HS.out).mono ?_; rintro e w' ⟨rfl, rfl⟩)
    go_ret
    have hcl : classL p u = [] := by unfold classL; rw [HR.out]; rfl
    rw [hcl]
    exact ⟨_, rfl, World.ownsRow_nil _ _ _ _, Below.refl _ _⟩
  · have HR := hid hr
    clear hr
    cases hp : placeB p.length u
    · have HP := hid hp
      clear hp
      go_enter Try.func13, Try.ntmps13
      go_wp2_with (first | (go_at_call 23; refine (right_is true HR.out HS.out).mono ?_; rintro e w' ⟨rfl, rfl⟩) | (go_at_call 21; refine (place_is false HP.out _).mono ?_; rintro e w' ⟨rfl, rfl⟩))
      go_ret
      have hcl : classL p u = [] := by unfold classL; rw [HR.out, HP.out]; rfl
      rw [hcl]
      exact ⟨_, rfl, World.ownsRow_nil _ _ _ _, Below.refl _ _⟩
    · have HP := hid hp
      have hp' := (placeB_iff _ _).1 hp
      have u1 : 0 ≤ u := hp'.1
      have u2 : u < p.length := hp'.2
      have hcl : classL p u = clK p u p.length := by unfold classL; rw [HR.out, HP.out]; rfl
      have HCL := hid hcl
      clear hp hp' hcl
      go_enter Try.func13, Try.ntmps13
      go_wp2_with (first | (go_at_call 23; refine (right_is true HR.out HS.out).mono ?_; rintro e w' ⟨rfl, rfl⟩) | (go_at_call 21; refine (place_is true HP.out _).mono ?_; rintro e w' ⟨rfl, rfl⟩))
      go_loopw [5, 20] (fun l i wr => ∃ k : Nat, k ≤ p.length ∧ i = .int .i64 k ∧ wr.ownsRow w.heap.size 3 1 l (clK p u k).length (ints (clK p u k)) ∧ Below w.heap.size w wr) (fun _ i _ => p.length - (intOf i).toNat)
      case atStart => exact ⟨0, Nat.zero_le _, rfl, World.ownsRow_nil _ _ _ _, Below.refl _ _⟩
      case round =>
        obtain ⟨k, hk, rfl, hown, hbel⟩ := hrel
        have hck := clK_le p u k
        by_cases hlt : k < p.length
        · obtain ⟨b, o, rfl, hb, hc⟩ := HX.out (by omega)
          have c1 := (hbel.cell (p := ⟨b, o + k, none⟩) (by show b < _; omega)).trans (ints_cell hc hlt)
          have c2 := (hbel.cell (p := ⟨b, o + u.toNat, none⟩) (by show b < _; omega)).trans (ints_cell hc (k := u.toNat) (by omega))
          clear hc
          have hgx : g p (k : Int) = p.getD k 0 := by simp [g]
          have hgu : g p u = p.getD u.toNat 0 := rfl
          generalize p.getD k 0 = x at c1 hgx
          generalize p.getD u.toNat 0 = y at c2 hgu
          have HG := hid (And.intro hgx hgu)
          have HC := hid (clK_step p u k)
          have hsz := hbel.size
          clear hgx hgu
          generalize clK p u k = m at *
          by_cases he : x = y
          · have e1 : (x == y) = true := by simp [he]
            have HE := hid he
            clear he
            go_wp2_with (at_builtin; refine wl_app1 rfl _ _ Tints rfl (news := [.int .i64 (k : Int)]) rfl hown rfl rfl (ints_one [(k : Int)]) (by omega) hsz ?_)
            intro v' w' hown' hbel'
            go_wp2
            go_roundw
            case rel =>
              have e2 : clK p u (k + 1) = m ++ [(k : Int)] := by rw [HC.out, if_pos (by rw [HG.out.1, HG.out.2]; exact HE.out)]
              refine ⟨k + 1, by omega, by go_num, ?_, hbel.trans hbel'⟩
              rw [e2, ← ints_app, List.length_append]
              exact hown'
            case measure => simp [intOf]; omega
          · have e1 : (x == y) = false := by simp [he]
            have HE := hid he
            clear he
            go_wp2
            go_roundw
            case rel =>
              have e2 : clK p u (k + 1) = m := by rw [HC.out, if_neg (by rw [HG.out.1, HG.out.2]; exact HE.out)]; simp
              exact ⟨k + 1, by omega, by go_num, by rw [e2]; exact hown, hbel⟩
            case measure => simp [intOf]; omega
        · have hkn : k = p.length := by omega
          subst hkn
          go_wp2
          go_ret
          exact ⟨_, rfl, by rw [HCL.out]; exact hown, hbel⟩
end Go.Proofs.Ytholhmdmpomabaa
