/- MgPart: PartA to PartJ, merged. -/
import Derived.Test.YtbafbnkmmpaomaaMgA
import Derived.Test.YtbafbnkmmpaomaaBase
import Derived.Deep.RegionHeld3
import Derived.Deep.LoopGhost
/- Contracts of part.place and part.root. -/
namespace Go.Proofs.Ytbafbnkmmpaomaa
open Go.RowKit Pt
set_option linter.unusedVariables false

theorem place_any (n v : Int) (w : World) :
    Calls Try.prog 64 #[.int .i64 n, .int .i64 v] w fun e w' => e = .returned (.bool (placeB n v)) ∧ w = w' := by
  by_cases h1 : 0 ≤ v
  · go_enter Try.func64, Try.ntmps64
    go_wp2
    go_ret
    exact ⟨ret_bool (by simp [placeB, h1]), rfl⟩
  · go_enter Try.func64, Try.ntmps64
    go_wp2
    go_ret
    exact ⟨ret_bool (by simp [placeB]; omega), rfl⟩

theorem place_is {n v : Int} (b : Bool) (h : placeB n v = b) (w : World) :
    Calls Try.prog 64 #[.int .i64 n, .int .i64 v] w fun e w' => e = .returned (.bool b) ∧ w = w' := by
  rw [← h]; exact place_any n v w

/-- What root leaves: the row k of the ways, which still lead to what P says. -/
def Rooted (k : Nat) (P : List Int) (v : Int) (w : World) (e : Ending) (w' : World) : Prop :=
  e = .returned (.int .i64 (g P v)) ∧ ∃ zs, Blk w' k 3 (ints zs) ∧ Uf zs P ∧ Only k w w'
def RootRel (k : Nat) (P : List Int) (v0 : Int) (w : World) (v : Value) (wr : World) : Prop :=
  ∃ (x : Int) (zs : List Int), v = .int .i64 x ∧ InR P.length x ∧ g P x = g P v0 ∧ Blk wr k 3 (ints zs) ∧ Uf zs P ∧ Only k w wr

theorem root_any (k n : Nat) (zs P : List Int) (v : Int) (w : World) (hn : zs.length = n) (hm : n ≤ maxLen) (hb : Blk w k 3 (ints zs)) (hu : Uf zs P) (hv : InR P.length v) :
    Calls Try.prog 65 #[.slice (some ⟨k, 0, none⟩) n n, .int .i64 v] w (Rooted k P v w) := by
  unfold maxLen at hm
  have HN := hid hn
  clear hn
  go_enter Try.func65, Try.ntmps65
  go_wp2
  go_loopw [1] (fun x wr => RootRel k P v w x wr) (fun x _ => (intOf x).toNat)
  case atStart => exact ⟨v, zs, rfl, hv, rfl, hb, hu, Only.refl _ _⟩
  case round =>
    obtain ⟨x, ys, rfl, hx, hg, hb', hu', ho⟩ := hrel
    have hl : ys.length = n := by rw [hu'.1, ← hu.1]; exact HN.out
    have hy := hu'.inr hx
    have hx1 := hu'.2 x hx
    have hy1 := hu'.2 _ hy
    have c1 : wr.cell? ⟨k, x.toNat, none⟩ = some (.int .i64 (g ys x)) := by
      rw [hb'.cell, ints_at _ _ (by rw [hu'.1]; unfold InR at hx; omega)]; rfl
    have c2 : wr.cell? ⟨k, (g ys x).toNat, none⟩ = some (.int .i64 (g ys (g ys x))) := by
      rw [hb'.cell, ints_at _ _ (by rw [hu'.1]; unfold InR at hy; omega)]; rfl
    have f1 := hb'.frozen x.toNat
    have b1 : 0 ≤ x := hx.1
    have b2 : x < n := by have := hx.2; rw [← hu'.1, hl] at this; exact this
    have b3 : 0 ≤ g ys x := hy.1
    have b4 : g ys x ≤ x := hx1.2.1
    have HP := hid (And.intro hg hx1)
    have HY := hid (And.intro hy hy1)
    have HU := hid hu'
    clear hg hx1 hy1 hu' hy
    by_cases he : g ys x = x
    · have HE := hid he
      have e1 : (g ys x != x) = false := by simp [he]
      clear he c2
      go_wp2
      go_ret
      have h1 := HP.out
      exact ⟨ret_int (by rw [← h1.1, h1.2.2.2.2 HE.out]), ys, hb', HU.out, ho⟩
    · have e1 : (g ys x != x) = true := by simp [he]
      go_wp2
      go_roundw
      case rel =>
        have h1 := HP.out
        have h2 := HY.out
        refine ⟨_, ys.set x.toNat (g ys (g ys x)), rfl, HU.out.inr h2.1, ?_, ?_, HU.out.short hx, ho.put _ _⟩
        · rw [h2.2.2.2.1, h1.2.2.2.1, h1.1]
        · rw [← ints_set]; exact hb'.put _ _
      case measure =>
        have h1 := HP.out
        have h2 := HY.out
        simp [intOf]; omega
end Go.Proofs.Ytbafbnkmmpaomaa

/- Contracts of part.Right, part.single, slices.Clone. -/
namespace Go.Proofs.Ytbafbnkmmpaomaa
open Go.RowKit Pt
set_option linter.unusedVariables false

theorem all_range_false {n k : Nat} (hk : k < n) {f : Nat → Bool} (h : f k = false) : (List.range n).all f = false := by
  rw [List.all_eq_false]; exact ⟨k, by simpa using hk, by simp [h]⟩
theorem all_range_true {n : Nat} {f : Nat → Bool} (h : ∀ i, i < n → f i = true) : (List.range n).all f = true := by
  rw [List.all_eq_true]; exact fun k hk => h k (by simpa using hk)

set_option maxHeartbeats 400000 in
theorem right_any (v : Value) (n B : Nat) (p : List Int) (w : World) (hs : Sl w B 1 v n (ints p)) :
    Calls Try.prog 66 #[v] w fun e w' => e = .returned (.bool (rightB p)) ∧ w = w' := by
  obtain ⟨A, c, rfl, hnc, hcm, hl, hx⟩ := hs
  have hn : p.length = n := by rw [len_ints] at hl; omega
  subst hn
  have hm : p.length ≤ 9223372036854775807 := by unfold maxLen at hcm; omega
  clear hl hcm
  have HX := hid hx
  clear hx
  go_enter Try.func66, Try.ntmps66
  go_wp2
  go_loop [7] (fun i => ∃ k : Nat, k ≤ p.length ∧ i = .int .i64 k ∧ Hid (∀ j, j < k → okAt p j = true)) (fun i => p.length - (intOf i).toNat)
  case atStart => exact ⟨0, Nat.zero_le _, rfl, fun j hj => by omega⟩
  case round =>
    obtain ⟨k, hk, rfl, hall⟩ := hrel
    by_cases hlt : k < p.length
    · obtain ⟨b, o, rfl, hb, hc⟩ := HX.out (by omega)
      have c1 := ints_cell hc hlt
      obtain ⟨x, hxx⟩ : ∃ x, x = p.getD k 0 := ⟨_, rfl⟩
      rw [← hxx] at c1
      have hgx : g p (k : Int) = x := by rw [hxx]; simp [g]
      have HG := hid hgx
      clear hgx hxx hc
      cases hp : placeB (p.length : Int) x
      · have HP := hid hp
        clear hp
        go_wp2_with (go_at_call 64; refine (place_is false HP.out _).mono ?_; rintro e w' ⟨rfl, rfl⟩)
        go_ret
        refine ⟨ret_bool ?_, rfl⟩
        exact (all_range_false hlt (by unfold okAt; rw [HG.out, HP.out]; rfl)).symm
      · have HP := hid hp
        have hp' := (placeB_iff _ _).1 hp
        have x1 : 0 ≤ x := hp'.1
        have x2 : x < p.length := hp'.2
        clear hp hp'
        by_cases hgt : x ≤ k
        · have c2 : w.cell? ⟨b, o + x.toNat, none⟩ = some (.int .i64 (g p x)) := ints_cell (by obtain ⟨b', o', h1, _, h2⟩ := HX.out (by omega); injection h1 with h1; injection h1 with h1 h3; subst h1; subst h3; exact h2) (by omega)
          obtain ⟨y, hy⟩ : ∃ y, y = g p x := ⟨_, rfl⟩
          rw [← hy] at c2
          have HY := hid hy
          clear hy
          by_cases he : y = x
          · subst he
            go_wp2_with (go_at_call 64; refine (place_is true HP.out _).mono ?_; rintro e w' ⟨rfl, rfl⟩)
            go_round
            case rel =>
              refine ⟨k + 1, by omega, by go_num, hid fun j hj => ?_⟩
              by_cases hjk : j = k
              · subst hjk
                unfold okAt
                rw [HG.out, HP.out, ← HY.out]
                simp [hgt]
              · exact hall.out j (by omega)
            case measure => simp [intOf]; omega
          · have e1 : (y != x) = true := by simp [he]
            have HE := hid he
            clear he
            go_wp2_with (go_at_call 64; refine (place_is true HP.out _).mono ?_; rintro e w' ⟨rfl, rfl⟩)
            go_ret
            refine ⟨ret_bool ?_, rfl⟩
            exact (all_range_false hlt (by unfold okAt; rw [HG.out, ← HY.out]; simp [HE.out])).symm
        · go_wp2_with (go_at_call 64; refine (place_is true HP.out _).mono ?_; rintro e w' ⟨rfl, rfl⟩)
          go_ret
          refine ⟨ret_bool ?_, rfl⟩
          exact (all_range_false hlt (by unfold okAt; rw [HG.out]; simp; intros; omega)).symm
    · go_wp2
      go_ret
      exact ⟨ret_bool (all_range_true fun i hi => hall.out i (by omega)).symm, rfl⟩
end Go.Proofs.Ytbafbnkmmpaomaa

/- Contracts of part.single, slices.Clone. -/
namespace Go.Proofs.Ytbafbnkmmpaomaa
open Go.RowKit Pt
set_option linter.unusedVariables false

theorem single_any (n : Nat) (hn : n ≤ 17592186044416) (w : World) :
    Calls Try.prog 63 #[.int .i64 n] w fun e w' => e = .returned (.slice (some ⟨w.heap.size, 0, none⟩) n n) ∧ Blk w' w.heap.size 3 (ints (idl n)) ∧ Below w.heap.size w w' ∧ w.heap.size < w'.heap.size := by
  have hmk := fun w => run_make_ints n hn w
  go_enter Try.func63, Try.ntmps63
  go_wp2
  have hb0 : Blk (w.alloc (.cells (ints (List.replicate n 0)).toArray 3)) w.heap.size 3 (ints (fillI n 0)) := by rw [fillI_zero]; exact Blk.new _ _ _
  have hw0 : Below w.heap.size w (w.alloc (.cells (ints (List.replicate n 0)).toArray 3)) := (Below.refl _ _).alloc (Nat.le_refl _) _
  clear hmk
  go_loopw [9] (fun i wr => ∃ k : Nat, k ≤ n ∧ i = .int .i64 k ∧ Blk wr w.heap.size 3 (ints (fillI n k)) ∧ Below w.heap.size w wr) (fun i _ => n - (intOf i).toNat)
  case atStart => exact ⟨0, Nat.zero_le _, rfl, hb0, hw0⟩
  case round =>
    obtain ⟨k, hk, rfl, hb, hw⟩ := hrel
    clear hb0 hw0
    by_cases hlt : k < n
    · have c1 : wr.cell? ⟨w.heap.size, k, none⟩ = some (.int .i64 ((fillI n k).getD k 0)) := by rw [hb.cell, ints_at _ _ (by rw [len_fillI]; exact hlt)]
      have f1 := hb.frozen k
      generalize (fillI n k).getD k 0 = x at c1
      go_wp2
      go_roundw
      case rel => exact ⟨k + 1, by omega, by go_num, by rw [← fillI_set, ← ints_set]; exact hb.put _ _, hw.setCell (Nat.le_refl _) _⟩
      case measure => simp [intOf]; omega
    · have hkn : k = n := by omega
      subst hkn
      go_wp2
      go_ret
      exact ⟨rfl, by rw [← fillI_all]; exact hb, hw, hb.lt⟩

end Go.Proofs.Ytbafbnkmmpaomaa

/- Contracts of part.Many, part.Class, part.Refines. -/
namespace Go.Proofs.Ytbafbnkmmpaomaa
open Go.RowKit Pt
set_option linter.unusedVariables false

theorem right_is {v : Value} {n B : Nat} {p : List Int} {w : World} (b : Bool) (h : rightB p = b) (hs : Sl w B 1 v n (ints p)) :
    Calls Try.prog 66 #[v] w fun e w' => e = .returned (.bool b) ∧ w = w' := by
  rw [← h]; exact right_any v n B p w hs

theorem many_any (v : Value) (n B : Nat) (p : List Int) (w : World) (hs : Sl w B 1 v n (ints p)) :
    Calls Try.prog 58 #[v] w fun e w' => e = .returned (.int .i64 (manyZ p)) ∧ w = w' := by
  have HS := hid hs
  obtain ⟨A, c, rfl, hnc, hcm, hl, hx⟩ := hs
  have hn : p.length = n := by rw [len_ints] at hl; omega
  subst hn
  have hm : p.length ≤ 9223372036854775807 := by unfold maxLen at hcm; omega
  clear hl hcm
  have HX := hid hx
  clear hx
  cases hr : rightB p
  · have HR := hid hr
    clear hr
    go_enter Try.func58, Try.ntmps58
    go_wp2_with (go_at_call 66; refine (right_is false HR.out HS.out).mono ?_; rintro e w' ⟨rfl, rfl⟩)
    go_ret
    exact ⟨ret_int (by unfold manyZ; rw [HR.out]; rfl), rfl⟩
  · have HR := hid hr
    clear hr
    go_enter Try.func58, Try.ntmps58
    go_wp2_with (go_at_call 66; refine (right_is true HR.out HS.out).mono ?_; rintro e w' ⟨rfl, rfl⟩)
    go_loop [3, 11] (fun m i => ∃ k : Nat, k ≤ p.length ∧ i = .int .i64 k ∧ m = .int .i64 (cntK p k)) (fun _ i => p.length - (intOf i).toNat)
    case atStart => exact ⟨0, Nat.zero_le _, rfl, rfl⟩
    case round =>
      obtain ⟨k, hk, rfl, rfl⟩ := hrel
      have hck := cntK_le p k
      by_cases hlt : k < p.length
      · obtain ⟨b, o, rfl, hb, hc⟩ := HX.out (by omega)
        have c1 := ints_cell hc hlt
        clear hc
        have hgx : g p (k : Int) = p.getD k 0 := by simp [g]
        generalize p.getD k 0 = x at c1 hgx
        have HG := hid hgx
        have HC := hid (cntK_step p k)
        clear hgx
        generalize cntK p k = m at *
        by_cases he : (k : Int) = x
        · have e1 : ((k : Int) == x) = true := by simp [he]
          have HE := hid he
          clear he
          go_wp2
          go_round
          case rel => exact ⟨k + 1, by omega, by go_num, by rw [HC.out, if_pos (by rw [HG.out, HE.out])]; go_num⟩
          case measure => simp [intOf]; omega
        · have e1 : ((k : Int) == x) = false := by simp [he]
          have HE := hid he
          clear he
          go_wp2
          go_round
          case rel => exact ⟨k + 1, by omega, by go_num, by rw [HC.out, if_neg (by rw [HG.out]; exact fun h => HE.out h.symm)]; go_num⟩
          case measure => simp [intOf]; omega
      · have hkn : k = p.length := by omega
        subst hkn
        go_wp2
        go_ret
        exact ⟨ret_int (by unfold manyZ; rw [HR.out, cntK_all]; rfl), rfl⟩

end Go.Proofs.Ytbafbnkmmpaomaa

/- Contracts of part.Refines, part.Join, raftsmanref06.Same. -/
namespace Go.Proofs.Ytbafbnkmmpaomaa
open Go.RowKit Pt
set_option linter.unusedVariables false

def sameB (p q : List Int) : Bool := p == q
end Go.Proofs.Ytbafbnkmmpaomaa

/- Contracts of part.Refines, part.Join. -/
namespace Go.Proofs.Ytbafbnkmmpaomaa
open Go.RowKit Pt
set_option linter.unusedVariables false

end Go.Proofs.Ytbafbnkmmpaomaa

/- Contract of raftsmanref09.May. -/
namespace Go.Proofs.Ytbafbnkmmpaomaa
open Go.RowKit Pt
set_option linter.unusedVariables false

end Go.Proofs.Ytbafbnkmmpaomaa

/- Contract of part.Of. -/
namespace Go.Proofs.Ytbafbnkmmpaomaa
open Go.RowKit Pt
set_option linter.unusedVariables false

def OfPost (n : Nat) (l : List Ed) (w : World) (e : Ending) (w' : World) : Prop :=
  Below w.heap.size w w' ∧ ((mayB n l = true ∧ ∃ v', e = .returned (.tuple #[v', .int .i64 0]) ∧ w'.ownsRow w.heap.size 3 1 v' n (ints (partOf n (uv l)))) ∨ (mayB n l = false ∧ e = .returned (.tuple #[.slice none 0 0, .int .i64 1])))
def OfRel (n : Nat) (l : List Ed) (k0 : Nat) (w : World) (i : Value) (wr : World) : Prop :=
  ∃ k : Nat, k ≤ l.length ∧ i = .int .i64 k ∧ (∀ j (h : j < l.length), j < k → edB n l[j] = true) ∧ Below w.heap.size w wr ∧ ∃ zs, Blk wr k0 3 (ints zs) ∧ Uf zs (partOf n ((uv l).take k))

theorem mayB_bad {n : Int} {l : List Ed} {k : Nat} (h : k < l.length) (hb : edB n l[k] = false) : mayB n l = false := by
  unfold mayB; rw [List.all_eq_false]; exact ⟨l[k], List.getElem_mem _, by simp [hb]⟩
theorem mayB_good {n : Int} {l : List Ed} (h : ∀ j (h : j < l.length), j < l.length → edB n l[j] = true) : mayB n l = true := by
  unfold mayB; rw [List.all_eq_true]; intro e he
  obtain ⟨j, hj, rfl⟩ := List.getElem_of_mem he
  exact h j hj hj

def RootInv (k n : Nat) (P : List Int) (W0 w : World) : Prop := ∃ zs, Blk w k 3 (ints zs) ∧ Uf zs P ∧ zs.length = n ∧ Only k W0 w
theorem root_inv {k n : Nat} {P : List Int} {v : Int} {W0 w : World} (hm : n ≤ maxLen) (hv : InR P.length v) (hI : RootInv k n P W0 w) :
    Calls Try.prog 65 #[.slice (some ⟨k, 0, none⟩) n n, .int .i64 v] w fun e w' => e = .returned (.int .i64 (g P v)) ∧ RootInv k n P W0 w' ∧ Only k w w' := by
  obtain ⟨zs, hb, hu, hn, h0⟩ := hI
  exact (root_any k n zs P v w hn hm hb hu hv).mono fun e w' ⟨he, zs', hb', hu', ho⟩ => ⟨he, ⟨zs', hb', hu', by rw [hu'.1, ← hu.1, hn], h0.trans ho⟩, ho⟩
theorem Only.cell {k : Nat} {w w' : World} (h : Only k w w') {b o : Nat} (hb : b < w.heap.size) (hne : b ≠ k) : w'.cell? ⟨b, o, none⟩ = w.cell? ⟨b, o, none⟩ :=
  World.cell?_of_block (h.block b hb (fun e => hne (by injection e)))

theorem Only.keepc {k : Nat} {w w' : World} (h : Only k w w') {b o : Nat} {v : Value} (hne : b ≠ k) (hc : w.cell? ⟨b, o, none⟩ = some v) : w'.cell? ⟨b, o, none⟩ = some v :=
  World.grownBy.cell h hc (fun e => hne (by injection e))
theorem Only.drew {k : Nat} {w w' : World} (h : Only k w w') : Only k w w'.drew := ⟨h.os, h.tape, h.output, h.size, h.block⟩
theorem Only.alloc (k : Nat) (w : World) (o : Obj) : Only k w (w.alloc o) := World.grownBy_alloc w o _

set_option maxHeartbeats 1000000 in
theorem of_any (n : Nat) (hn : n ≤ 1024) (v : Value) (m B : Nat) (l : List Ed) (w : World) (hs : Sl w B 3 v m (eds l)) (hB : B ≤ w.heap.size) :
    Calls Try.prog 57 #[.int .i64 n, v] w (OfPost n l w) := by
  obtain ⟨A, c, rfl, hnc, hcm, hl, hx⟩ := hs
  have hm : l.length = m := by rw [len_eds] at hl; omega
  subst hm
  have hm : l.length ≤ 9223372036854775807 := by unfold maxLen at hcm; omega
  clear hl hcm
  have HX := hid hx
  clear hx
  have n0 : (0 : Int) ≤ n := by omega
  have n1 : (n : Int) ≤ 1024 := by omega
  go_enter Try.func57, Try.ntmps57
  go_wp2_with fail
  refine (single_any n (by omega) _).mono ?_; rintro e w1 ⟨rfl, hb, hbel, hlt1⟩
  go_wp2_with fail
  go_loopw [22] (OfRel n l w.heap.size w) (fun i _ => l.length - (intOf i).toNat)
  case atStart => exact ⟨0, Nat.zero_le _, rfl, fun j _ hj => by omega, hbel, idl n, hb, Uf_id n⟩
  case round =>
    obtain ⟨k, hk, rfl, hall, hbel', zs, hb', hu⟩ := hrel
    clear hb hbel hlt1
    have HA := hid hall
    have HU := hid hu
    clear hall hu
    by_cases hlt : k < l.length
    · obtain ⟨b, o, rfl, hbB, hc⟩ := HX.out (by omega)
      obtain ⟨d1, d2, d3⟩ := eds_cell hc hlt
      have c1 := (hbel'.cell (p := ⟨b, o + k * 3, none⟩) (by show b < _; omega)).trans d1
      have c2 := (hbel'.cell (p := ⟨b, o + k * 3 + 1, none⟩) (by show b < _; omega)).trans d2
      have c3 := (hbel'.cell (p := ⟨b, o + k * 3 + 2, none⟩) (by show b < _; omega)).trans d3
      have HE : Hid (edB n l[k] = (placeB n l[k].1 && placeB n l[k].2.1)) := hid rfl
      have HV : Hid ((uv l).take (k + 1) = (uv l).take k ++ [(l[k].1, l[k].2.1)]) := hid (by rw [take_one _ (by simp [uv]; exact hlt)]; simp [uv])
      clear d1 d2 d3 hc
      generalize l[k].1 = x at *
      generalize l[k].2.1 = y at *
      generalize l[k].2.2 = z at *
      cases hp : placeB n x
      · have HP := hid hp
        clear hp
        go_wp2_with fail
        refine (place_is false HP.out _).mono ?_; rintro e w' ⟨rfl, rfl⟩
        go_wp2
        go_ret2
        exact ⟨hbel'.alloc hbel'.size _, .inr ⟨mayB_bad hlt (by rw [HE.out, HP.out]; rfl), rfl⟩⟩
      · have HP := hid hp
        clear hp
        cases hp2 : placeB n y
        · have HP2 := hid hp2
          clear hp2
          go_wp2_with fail
          refine (place_is true HP.out _).mono ?_; rintro e w' ⟨rfl, rfl⟩
          go_wp2_with fail
          refine (place_is false HP2.out _).mono ?_; rintro e w' ⟨rfl, rfl⟩
          go_wp2
          go_ret2
          exact ⟨hbel'.alloc hbel'.size _, .inr ⟨mayB_bad hlt (by rw [HE.out, HP.out, HP2.out]; rfl), rfl⟩⟩
        · have HP2 := hid hp2
          clear hp2
          go_wp2_with fail
          refine (place_is true HP.out _).mono ?_; rintro e w' ⟨rfl, rfl⟩
          go_wp2_with fail
          refine (place_is true HP2.out _).mono ?_; rintro e w' ⟨rfl, rfl⟩
          go_wp2_with fail
          have hx1 := hid ((placeB_iff _ _).1 HP.out)
          have hy1 := hid ((placeB_iff _ _).1 HP2.out)
          have hlP : (partOf n ((uv l).take k)).length = n := len_partOf _ _
          have HlP := hid hlP
          have I1 : RootInv w.heap.size n (partOf n ((uv l).take k)) wr (wr.alloc (Obj.cells #[Value.int IntKind.i64 x, Value.int IntKind.i64 y, Value.int IntKind.i64 z] 61)).drew :=
            ⟨zs, hb'.alloc _, HU.out, by rw [HU.out.1, hlP], (Only.alloc _ _ _).drew⟩
          have hne : wr.heap.size ≠ w.heap.size := by have := hb'.lt; omega
          have HB := hid hb'
          clear hlP hb'
          go_region_held3 (fun w' => w'.cell? ⟨wr.heap.size, 0, none⟩ = some (.int .i64 x) ∧ w'.cell? ⟨wr.heap.size, 1, none⟩ = some (.int .i64 y))
            (first | go_keep | (go_split_ands; refine ⟨?_, ?_⟩ <;> (refine ho.keepc hne ?_; assumption)))
            (first | (go_at_call 65; refine (root_inv (P := partOf n ((uv l).take k)) (W0 := wr) (by unfold maxLen; omega) (by rw [HlP.out]; first | exact hx1.out | exact hy1.out) (by first | exact I1 | assumption)).mono ?_; rintro e w' ⟨rfl, I2, ho⟩))
          obtain ⟨zs2, hb2, hu2, hn2, hO⟩ := I2
          have hbel2 : Below w.heap.size w w' := hbel'.trans (hO.below (Nat.le_refl _) hbel'.size)
          clear ho hO I1 hne c1 c2 c3
          have hMay : MayL n ((uv l).take (k + 1)) := by
            intro e he
            rw [HV.out] at he
            rcases List.mem_append.1 he with he | he
            · rw [← uv_take] at he
              obtain ⟨d, hd, rfl⟩ := List.mem_map.1 he
              obtain ⟨j, hj, rfl⟩ := List.getElem_of_mem hd
              have hj' : j < k ∧ j < l.length := by simp at hj; omega
              have := HA.out j hj'.2 hj'.1
              unfold edB at this
              simp only [Bool.and_eq_true, placeB_iff] at this
              simpa using this
            · simp at he; subst he; exact ⟨hx1.out, hy1.out⟩
          have hMay0 : MayL n ((uv l).take k) := by
            have := hMay.take k
            rwa [List.take_take, Nat.min_eq_left (by omega)] at this
          have hRt := Rt_partOf hMay0
          have HN : Hid (Uf (zs2.set (max (g (partOf n ((uv l).take k)) x) (g (partOf n ((uv l).take k)) y)).toNat (min (g (partOf n ((uv l).take k)) x) (g (partOf n ((uv l).take k)) y))) (partOf n ((uv l).take (k + 1)))) := hid (by
            rw [HV.out, partOf_snoc]
            exact hu2.union hRt (by rw [HlP.out]; exact hx1.out) (by rw [HlP.out]; exact hy1.out))
          have ra := hRt.inr (v := x) (by rw [HlP.out]; exact hx1.out)
          have rb := hRt.inr (v := y) (by rw [HlP.out]; exact hy1.out)
          rw [HlP.out] at ra rb
          obtain ⟨a0, a1⟩ := ra
          obtain ⟨b0, b1⟩ := rb
          have HAll : Hid (∀ j (h : j < l.length), j < k + 1 → edB n l[j] = true) := hid (fun j hj hjk => by
            by_cases h : j = k
            · subst h; rw [HE.out, HP.out, HP2.out]; rfl
            · exact HA.out j hj (by omega))
          clear hMay hMay0 hRt hu2 HV HE HA HP HP2 hx1 hy1 HU
          generalize hPa : g (partOf n ((uv l).take k)) x = p1 at *
          generalize hPb : g (partOf n ((uv l).take k)) y = p2 at *
          clear hPa hPb HlP
          have cM : ∀ t : Int, 0 ≤ t → t < n → w'.cell? ⟨w.heap.size, t.toNat, none⟩ = some (.int .i64 (zs2.getD t.toNat 0)) := fun t h0 h1 => by
            rw [hb2.cell, ints_at _ _ (by omega)]
          have ca := cM p1 a0 a1
          have cb := cM p2 b0 b1
          have fa := hb2.frozen p1.toNat
          have fb := hb2.frozen p2.toNat
          have HB2 := hid hb2
          clear cM hb2 hn2
          generalize zs2.getD p1.toNat 0 = v1 at ca
          generalize zs2.getD p2.toNat 0 = v2 at cb
          rcases Int.lt_trichotomy p1 p2 with hc | hc | hc
          · have e1 : ¬ p2 < p1 := by omega
            go_wp2
            go_roundw
            case rel =>
              refine ⟨k + 1, by omega, by go_num, HAll.out, hbel2.setCell (Nat.le_refl _) _, _, ?_, HN.out⟩
              rw [Int.max_eq_right (by omega), Int.min_eq_left (by omega), ← ints_set]
              exact HB2.out.put _ _
            case measure => simp [intOf]; omega
          · subst hc
            go_wp2
            go_roundw
            case rel =>
              refine ⟨k + 1, by omega, by go_num, HAll.out, hbel2.setCell (Nat.le_refl _) _, _, ?_, HN.out⟩
              rw [Int.max_eq_right (by omega), Int.min_eq_left (by omega), ← ints_set]
              exact HB2.out.put _ _
            case measure => simp [intOf]; omega
          · have e1 : ¬ p1 < p2 := by omega
            go_wp2
            go_roundw
            case rel =>
              refine ⟨k + 1, by omega, by go_num, HAll.out, hbel2.setCell (Nat.le_refl _) _, _, ?_, HN.out⟩
              rw [Int.max_eq_left (by omega), Int.min_eq_right (by omega), ← ints_set]
              exact HB2.out.put _ _
            case measure => simp [intOf]; omega
    · have hkn : k = l.length := by omega
      subst hkn
      have hP : (uv l).take l.length = uv l := by rw [List.take_of_length_le]; simp [uv]
      have hu := HU.out
      rw [hP] at hu
      have hlP : (partOf n (uv l)).length = n := len_partOf _ _
      have HlP := hid hlP
      have HMay := hid (mayB_good HA.out)
      have hF := hid hu.flat
      clear hP hu hlP HU HA
      generalize hPP : partOf n (uv l) = P at *
      have HPP := hid hPP
      clear hPP
      go_wp2
      go_loopw [57] (fun i wr2 => ∃ j : Nat, j ≤ n ∧ i = .int .i64 j ∧ Below w.heap.size w wr2 ∧ ∃ ys, Blk wr2 w.heap.size 3 (ints ys) ∧ Hid (Flat ys P j)) (fun i _ => n - (intOf i).toNat)
      case atStart => exact ⟨0, Nat.zero_le _, rfl, hbel', zs, hb', hF⟩
      case round =>
        obtain ⟨j, hj, rfl, hbel2, ys, hb2, hFl⟩ := hrel
        clear hb' hF hbel'
        by_cases hjn : j < n
        · have hly : ys.length = n := by rw [hFl.out.1.1]; exact HlP.out
          have hj1 := hFl.out.1.2 (j : Int) ⟨by omega, by rw [HlP.out]; omega⟩
          have c1 : wr.cell? ⟨w.heap.size, j, none⟩ = some (.int .i64 (g ys (j : Int))) := by
            rw [hb2.cell, ints_at _ _ (by omega)]; simp [g]
          have c2 : wr.cell? ⟨w.heap.size, (g ys (j : Int)).toNat, none⟩ = some (.int .i64 (g ys (g ys (j : Int)))) := by
            rw [hb2.cell, ints_at _ _ (by omega)]; rfl
          have f1 := hb2.frozen j
          have x0 := hj1.1
          have x1 := hj1.2.1
          have HS := hid (hFl.out.step (by rw [HlP.out]; exact hjn))
          have HB := hid hb2
          clear hj1 hly hb2
          generalize g ys (g ys (j : Int)) = y at *
          generalize g ys (j : Int) = x at *
          go_wp2
          go_roundw
          case rel =>
            refine ⟨j + 1, by omega, by go_num, hbel2.setCell (Nat.le_refl _) _, _, ?_, HS⟩
            rw [← ints_set]
            exact HB.out.put _ _
          case measure => simp [intOf]; omega
        · have hjn : j = n := by omega
          subst hjn
          have hFd := hFl.out
          rw [← HlP.out] at hFd
          have hyP := hFd.done
          have HY := hid hyP
          clear hFd hyP
          go_wp2
          go_ret2
          refine ⟨hbel2, .inl ⟨HMay.out, _, rfl, ?_⟩⟩
          rw [HPP.out, ← HY.out]
          exact own_of_blk hb2 (Nat.le_refl _) (by unfold maxLen; omega) (by rw [len_ints, HY.out, HlP.out]; omega)
end Go.Proofs.Ytbafbnkmmpaomaa

/- Contract of raftsmanref09.Of. -/
namespace Go.Proofs.Ytbafbnkmmpaomaa
open Go.RowKit Pt
set_option linter.unusedVariables false

def RefRel (n : Nat) (l : List Ed) (v : Value) (W : World) (gk : Nat) (again : Value) (wr : World) : Prop :=
  ∃ (a : Bool) (q : List Int), again = .bool a ∧ wr.ownsRow W.heap.size 3 1 v n (ints q) ∧ Below W.heap.size W wr ∧ LI n (partOf n (uv l)) q ∧ gk = 2 * sumI q + (if a then 1 else 0) ∧ (a = false → ∀ e ∈ uv l, g q e.1 = g q e.2)
def RefIn (n : Nat) (l : List Ed) (v : Value) (W : World) (s0 : Nat) (again i : Value) (wr : World) : Prop :=
  ∃ (a : Bool) (k : Nat) (q : List Int), again = .bool a ∧ i = .int .i64 k ∧ k ≤ l.length ∧ wr.ownsRow W.heap.size 3 1 v n (ints q) ∧ Below W.heap.size W wr ∧ LI n (partOf n (uv l)) q ∧ sumI q ≤ s0 ∧ (a = true → sumI q < s0) ∧
    (a = false → ∀ j (h : j < l.length), j < k → g q l[j].1 = g q l[j].2.1)

set_option maxHeartbeats 1000000 in
theorem refOf_any (n : Nat) (hn : n ≤ 1024) (v : Value) (m B : Nat) (l : List Ed) (w : World) (hs : Sl w B 3 v m (eds l)) (hB : B ≤ w.heap.size) (hmay : mayB n l = true) :
    Calls Try.prog 54 #[.int .i64 n, v] w fun e w' => ∃ v', e = .returned v' ∧ w'.ownsRow w.heap.size 3 1 v' n (ints (partOf n (uv l))) ∧ Below w.heap.size w w' := by
  obtain ⟨A, c, rfl, hnc, hcm, hl, hx⟩ := hs
  have hm : l.length = m := by rw [len_eds] at hl; omega
  subst hm
  have hm : l.length ≤ 9223372036854775807 := by unfold maxLen at hcm; omega
  clear hl hcm
  have HX := hid hx
  have HM := hid ((mayB_iff _ _).1 hmay)
  clear hx hmay
  go_enter Try.func54, Try.ntmps54
  go_wp2
  go_loopw [5, 6] (fun p i wr => ∃ k : Nat, k ≤ n ∧ i = .int .i64 k ∧ wr.ownsRow w.heap.size 3 1 p k (ints (idl k)) ∧ Below w.heap.size w wr) (fun _ i _ => n - (intOf i).toNat)
  case atStart => exact ⟨0, Nat.zero_le _, rfl, World.ownsRow_nil _ _ _ _, Below.refl _ _⟩
  case round =>
    obtain ⟨k, hk, rfl, hown, hbel⟩ := hrel
    have hsz := hbel.size
    by_cases hlt : k < n
    · go_wp2_with (at_builtin; refine wl_app1 rfl _ _ Tints rfl (news := [.int .i64 (k : Int)]) rfl hown rfl rfl (ints_one [(k : Int)]) (by omega) hsz ?_)
      intro v' w' hown' hbel'
      go_wp2
      go_roundw
      case rel => exact ⟨k + 1, by omega, by go_num, by rw [← idl_snoc, ← ints_app]; exact hown', hbel.trans hbel'⟩
      case measure => simp [intOf]; omega
    · obtain rfl : n = k := by omega
      go_wp2
      go_loopg [7] (2 * sumI (idl n) + 1) (RefRel n l u5 w)
      case atStart => exact ⟨true, idl n, rfl, hown, hbel, LI_id, rfl, fun h => by cases h⟩
      case round =>
        obtain ⟨a, q, rfl, hown2, hbel2, hLI, hgk, hdone⟩ := hrel
        clear hown hbel hsz
        have HG := hid hgk
        have HD := hid hdone
        have HLI := hid hLI
        clear hgk hdone hLI
        cases a
        · go_wp2
          go_ret
          have := HLI.out.done HM.out (HD.out (by first | rfl | trivial))
          exact ⟨_, rfl, by rw [← this]; exact hown2, hbel2⟩
        · go_wp2
          have HO2 := hid (And.intro hown2 hbel2)
          clear hown2 hbel2
          obtain ⟨wo, hwo⟩ : ∃ wo : World, wo = wr := ⟨_, rfl⟩
          subst hwo
          go_loopw [7, 8] (RefIn n l u5 w (sumI q)) (fun _ i _ => l.length - (intOf i).toNat)
          case atStart => exact ⟨false, 0, q, rfl, rfl, Nat.zero_le _, HO2.out.1, HO2.out.2, HLI.out, Nat.le_refl _, fun h => (by cases h), fun _ j _ hj => by omega⟩
          case round =>
            obtain ⟨a, k, q', rfl, rfl, hk', hown, hbel, hLI, hle, hlt1, heq⟩ := hrel
            have HLI' := hid hLI
            have HS := hid (And.intro hle (And.intro hlt1 heq))
            clear hLI hle hlt1 heq
            by_cases hkl : k < l.length
            · have hxy := HM.out (l[k].1, l[k].2.1) (List.mem_map.2 ⟨l[k], List.getElem_mem _, rfl⟩)
              have hP : g (partOf n (uv l)) l[k].1 = g (partOf n (uv l)) l[k].2.1 := made_partOf HM.out (l[k].1, l[k].2.1) (List.mem_map.2 ⟨l[k], List.getElem_mem _, rfl⟩)
              obtain ⟨hxr, hyr⟩ := hxy
              simp only [] at hxr hyr
              obtain ⟨g0, cap, rfl, hg0, _⟩ := own_form hown (by unfold InR at hxr; omega)
              obtain ⟨b, o, rfl, hbB, hc⟩ := HX.out (by omega)
              obtain ⟨d1, d2, _⟩ := eds_cell hc hkl
              have c1 := (hbel.cell (p := ⟨b, o + k * 3, none⟩) (by show b < _; omega)).trans d1
              have c2 := (hbel.cell (p := ⟨b, o + k * 3 + 1, none⟩) (by show b < _; omega)).trans d2
              have HST : Hid (∀ q'', (∀ j (h : j < l.length), j < k → g q'' l[j].1 = g q'' l[j].2.1) → g q'' l[k].1 = g q'' l[k].2.1 → ∀ j (h : j < l.length), j < k + 1 → g q'' l[j].1 = g q'' l[j].2.1) := hid (fun q'' h1 h2 j hj hjk => by
                by_cases h : j = k
                · subst h; exact h2
                · exact h1 j hj (by omega))
              clear d1 d2 hc
              generalize l[k].1 = x at *
              generalize l[k].2.1 = y at *
              have hx0 : 0 ≤ x := hxr.1
              have hx1 : x < n := hxr.2
              have hy0 : 0 ≤ y := hyr.1
              have hy1 : y < n := hyr.2
              have hlq : q'.length = n := HLI'.out.1
              have ca : wr.cell? ⟨g0, x.toNat, none⟩ = some (.int .i64 (g q' x)) := by
                rw [hown.cellAt _ (by omega), ints_at _ _ (by omega)]; rfl
              have cb : wr.cell? ⟨g0, y.toNat, none⟩ = some (.int .i64 (g q' y)) := by
                rw [hown.cellAt _ (by omega), ints_at _ _ (by omega)]; rfl
              have fa := hown.frozenAt x.toNat
              have fb := hown.frozenAt y.toNat
              have HO := hid (And.intro hown hbel)
              have HR := hid (And.intro hxr (And.intro hyr hP))
              clear hown hbel hxr hyr hP hlq
              obtain ⟨pa, hpa⟩ : ∃ z, z = g q' x := ⟨_, rfl⟩
              obtain ⟨pb, hpb⟩ : ∃ z, z = g q' y := ⟨_, rfl⟩
              rw [← hpa] at ca
              rw [← hpb] at cb
              have HP := hid (And.intro hpa hpb)
              clear hpa hpb
              rcases Int.lt_trichotomy pa pb with hc | hc | hc
              · have e1 : ¬ pb < pa := by omega
                go_wp2_with fail
                go_quiet (fail)
                go_wp2
                go_roundw
                case rel =>
                  have h2 := HR.out
                  have h3 := HLI'.out.step h2.1 h2.2.1 h2.2.2 (by rw [← HP.out.1, ← HP.out.2]; exact hc)
                  have h4 := HS.out.1
                  refine ⟨true, k + 1, q'.set y.toNat (g q' x), rfl, by go_num, by omega, ?_, (HO.out.2.trans (((Qt.refl _).drewN _).below _)).setCell hg0 _, h3.1, by omega, fun _ => by omega, fun h => by cases h⟩
                  rw [← ints_set, ← HP.out.1]
                  exact ((own_below HO.out.1 (((Qt.refl _).drewN _).below _)).stored _ _).1
                case measure => simp [intOf]; omega
              · have HC := hid hc
                have e1 : ¬ pb < pa := by omega
                have e2 : ¬ pa < pb := by omega
                clear hc
                go_wp2_with fail
                go_quiet (fail)
                go_wp2
                go_roundw
                case rel =>
                  refine ⟨a, k + 1, q', rfl, by go_num, by omega, own_below HO.out.1 (((Qt.refl _).drewN _).below _), HO.out.2.trans (((Qt.refl _).drewN _).below _), HLI'.out, HS.out.1, HS.out.2.1, fun ha => HST.out q' (HS.out.2.2 ha) ?_⟩
                  rw [← HP.out.1, ← HP.out.2, HC.out]
                case measure => simp [intOf]; omega
              · have e1 : ¬ pa < pb := by omega
                go_wp2_with fail
                go_quiet (fail)
                go_wp2
                go_roundw
                case rel =>
                  have h2 := HR.out
                  have h3 := HLI'.out.step h2.2.1 h2.1 h2.2.2.symm (by rw [← HP.out.1, ← HP.out.2]; exact hc)
                  have h4 := HS.out.1
                  refine ⟨true, k + 1, q'.set x.toNat (g q' y), rfl, by go_num, by omega, ?_, (HO.out.2.trans (((Qt.refl _).drewN _).below _)).setCell hg0 _, h3.1, by omega, fun _ => by omega, fun h => by cases h⟩
                  rw [← ints_set, ← HP.out.2]
                  exact ((own_below HO.out.1 (((Qt.refl _).drewN _).below _)).stored _ _).1
                case measure => simp [intOf]; omega
            · have hkn : k = l.length := by omega
              have HK := hid hkn
              clear hkn
              go_wp2
              go_roundg (2 * sumI q' + (if a then 1 else 0))
              case measure =>
                have h1 := HS.out
                rw [HG.out]
                cases a
                · have := h1.1; simp; omega
                · have := h1.2.1 rfl; simp; omega
              case rel =>
                refine ⟨a, q', rfl, hown, hbel, HLI'.out, rfl, fun ha e he => ?_⟩
                obtain ⟨d, hd, rfl⟩ := List.mem_map.1 he
                obtain ⟨j, hj, rfl⟩ := List.getElem_of_mem hd
                exact HS.out.2.2 ha j hj (by rw [HK.out]; exact hj)
end Go.Proofs.Ytbafbnkmmpaomaa

/- Contract of awake: the fixed answer is true. -/
namespace Go.Proofs.Ytbafbnkmmpaomaa
open Go.RowKit Pt
set_option linter.unusedVariables false

theorem many_is {v : Value} {n B : Nat} {p : List Int} {w : World} (k : Int) (h : (manyZ p : Int) = k) (hs : Sl w B 1 v n (ints p)) :
    Calls Try.prog 58 #[v] w fun e w' => e = .returned (.int .i64 k) ∧ w = w' := by
  rw [← h]; exact many_any v n B p w hs
/-- part.Of of edges that may be. -/
theorem of_ok {n : Nat} (hn : n ≤ 1024) {v : Value} {m B : Nat} {l : List Ed} {w : World} (hs : Sl w B 3 v m (eds l)) (hB : B ≤ w.heap.size) (hm : mayB n l = true) :
    Calls Try.prog 57 #[.int .i64 n, v] w fun e w' => ∃ v', e = .returned (.tuple #[v', .int .i64 0]) ∧ Sl w' w'.heap.size 1 v' n (ints (partOf n (uv l))) ∧ Below w.heap.size w w' :=
  (of_any n hn v m B l w hs hB).mono fun e w' ⟨hb, h⟩ => by
    rcases h with ⟨_, v', he, ho⟩ | ⟨h, _⟩
    · exact ⟨v', he, Sl.of_own ho, hb⟩
    · rw [hm] at h; cases h
theorem of_no {n : Nat} (hn : n ≤ 1024) {v : Value} {m B : Nat} {l : List Ed} {w : World} (hs : Sl w B 3 v m (eds l)) (hB : B ≤ w.heap.size) (hm : mayB n l = false) :
    Calls Try.prog 57 #[.int .i64 n, v] w fun e w' => e = .returned (.tuple #[.slice none 0 0, .int .i64 1]) ∧ Below w.heap.size w w' :=
  (of_any n hn v m B l w hs hB).mono fun e w' ⟨hb, h⟩ => by
    rcases h with ⟨h, _⟩ | ⟨_, he⟩
    · rw [hm] at h; cases h
    · exact ⟨he, hb⟩
/-- part.Of of a number that is too great or too small. -/
theorem of_out {n : Int} (hn : n < 0 ∨ 1024 < n) (v : Value) (w : World) :
    Calls Try.prog 57 #[.int .i64 n, v] w fun e w' => e = .returned (.tuple #[.slice none 0 0, .int .i64 1]) ∧ w = w' := by
  rcases hn with hn | hn
  · go_enter Try.func57, Try.ntmps57
    go_wp2
    go_ret2
    exact ⟨rfl, rfl⟩
  · have h0 : 0 ≤ n := by omega
    go_enter Try.func57, Try.ntmps57
    go_wp2
    go_ret2
    exact ⟨rfl, rfl⟩

end Go.Proofs.Ytbafbnkmmpaomaa

