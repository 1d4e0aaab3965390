/- Keys: cells; contract of raftsmanref05.Same; verts.Keys. -/
import Derived.Test.YtcbedngimgkcoaaVerD
import Derived.Test.YtcbedngimgkcoaaVertsLaws
namespace Go.Proofs.Ytcbedngimgkcoaa
open Go.RowKit
set_option linter.unusedVariables false
set_option linter.unusedSimpArgs false

section
variable {ops : Array Oper} {rest : List Oper} {o : Oper} {a : Act} {Q : Exit → Act → World → Prop} {w : World}
theorem wl_app1H (hw : Region.wanted o (yielded ops a.tmps) = true) (s x : Operand) {t e : TypeId} {z : Value} {sz by_ : Nat} (hT : SlT t e z sz by_) (hop : o.op = .call { callee := .builtin .append, args := #[s, x], argTypes := #[t, t] })
    {base : Nat} {v : Value} {n : Nat} {xs : List Value} {news : List Value} {e' : TypeId} (hs : a.eval s = v) (hown : w.ownsRow base e sz v n xs) {H : Nat} (hx : a.eval x = .slice (some ⟨H, 0, none⟩) 1 1) (hH : w.heap.size = H)
    (hl : news.length = sz) (h1 : ∀ u ∈ news, u.oneCell' = true) (hb : (n + 1) * by_ ≤ 140737488355328) (hbase : base ≤ w.heap.size)
    (h : ∀ v' w', w'.ownsRow base e sz v' (n + 1) (xs ++ news) → Below base w w' → wpList Try.prog ops Q rest (a.put o.dst v') w') : wpList Try.prog ops Q (o :: rest) a (w.alloc (.cells news.toArray e')) := by
  subst hH
  exact wl_app1 hw s x hT hop hs hown hx hl h1 hb hbase h
end
/-- The cells of keys. -/
def uks (l : List Int) : List Value := l.map (Value.int .u64)
theorem len_uks (l : List Int) : (uks l).length = l.length := by simp [uks]
theorem uks_at (l : List Int) (k : Nat) (h : k < l.length) : (uks l)[k]? = some (.int .u64 (l.getD k 0)) := by simp [uks, h, List.getD]
theorem uks_app (p q : List Int) : uks p ++ uks q = uks (p ++ q) := by simp [uks]
theorem uks_one (l : List Int) : ∀ u ∈ uks l, u.oneCell' = true := by
  intro u hu
  obtain ⟨_, _, rfl⟩ := List.mem_map.1 hu
  rfl
theorem uks_cell {w : World} {b o : Nat} {l : List Int} (h : ∀ j u, (uks l)[j]? = some u → w.cell? ⟨b, o + j, none⟩ = some u) {k : Nat} (hk : k < l.length) : w.cell? ⟨b, o + k, none⟩ = some (.int .u64 (l.getD k 0)) :=
  h k _ (uks_at l k hk)
theorem Tuks : SlT 39 23 (.int .u64 0) 1 8 := SlT.mk Try.underlying39 (by kernel_rfl) rfl (by decide) (by decide)
def uksameB (p q : List Int) : Bool := p == q
theorem uksame_any (v v' : Value) (n n' B B' : Nat) (p q : List Int) (w : World) (hs : Sl w B 1 v n (uks p)) (hs' : Sl w B' 1 v' n' (uks q)) :
    Calls Try.prog 21 #[v, v'] w fun e w' => e = .returned (.bool (uksameB p q)) ∧ Qt w w' := by
  obtain ⟨A, c, rfl, hnc, hcm, hl, hx⟩ := hs
  have hn : p.length = n := by rw [len_uks] at hl; omega
  subst hn
  have hm : p.length ≤ 9223372036854775807 := by unfold maxLen at hcm; omega
  obtain ⟨A', c', rfl, hnc', hcm', hl', hx'⟩ := hs'
  have hn : q.length = n' := by rw [len_uks] at hl'; omega
  subst hn
  have hm' : q.length ≤ 9223372036854775807 := by unfold maxLen at hcm'; omega
  clear hl hcm hl' hcm'
  have HX := hid hx
  have HX' := hid hx'
  clear hx hx'
  by_cases hlen : p.length = q.length
  · have e0 : ((p.length : Int) != (q.length : Int)) = false := by simp [hlen]
    have HL := hid hlen
    have hlen' : p.length ≤ q.length := by omega
    clear hlen
    go_enter Try.func21, Try.ntmps21
    go_wp2
    go_loopw [5] (fun i wr => ∃ k : Nat, k ≤ p.length ∧ i = .int .i64 k ∧ Hid (∀ j, j < k → p.getD j 0 = q.getD j 0) ∧ Qt w wr) (fun i _ => p.length - (intOf i).toNat)
    case atStart => exact ⟨0, Nat.zero_le _, rfl, fun j hj => by omega, Qt.refl _⟩
    case round =>
      obtain ⟨k, hk, rfl, hall, hq⟩ := hrel
      by_cases hlt : k < p.length
      · obtain ⟨b, o, rfl, hb, hc⟩ := HX.out (by omega)
        obtain ⟨b', o', rfl, hb', hc'⟩ := HX'.out (by omega)
        have c1 := (hq.cell ⟨b, o + k, none⟩).trans (uks_cell hc hlt)
        have c2 := (hq.cell ⟨b', o' + k, none⟩).trans (uks_cell hc' (by omega))
        obtain ⟨x, hgx⟩ : ∃ x, x = p.getD k 0 := ⟨_, rfl⟩
        obtain ⟨y, hgy⟩ : ∃ y, y = q.getD k 0 := ⟨_, rfl⟩
        rw [← hgx] at c1
        rw [← hgy] at c2
        have HG := hid (And.intro hgx hgy)
        have i1 : (k : Int) < p.length := by omega
        have i2 : (k : Int) < q.length := by omega
        clear hc hc' hgx hgy
        by_cases he : x = y
        · have e1 : (x != y) = false := by simp [he]
          have HE := hid he
          clear he
          go_wp2_with fail
          go_quiet (fail)
          go_wp2
          go_roundw
          case rel =>
            refine ⟨k + 1, by omega, by go_num, hid fun j hj => ?_, hq.drewN _⟩
            by_cases hjk : j = k
            · subst hjk; rw [← HG.out.1, ← HG.out.2, HE.out]
            · exact hall.out j (by omega)
          case measure => simp [intOf]; omega
        · have e1 : (x != y) = true := by simp; omega
          have HE := hid he
          clear he
          go_wp2_with fail
          go_quiet (fail)
          go_wp2
          go_ret
          refine ⟨ret_bool ?_, hq.drewN _⟩
          unfold uksameB
          symm
          rw [beq_eq_false_iff_ne]
          intro h
          have := HG.out
          rw [h] at this
          exact HE.out (this.1.trans this.2.symm)
      · have hkn : k = p.length := by omega
        subst hkn
        go_wp2
        go_ret
        refine ⟨ret_bool ?_, hq⟩
        unfold uksameB
        symm
        rw [beq_iff_eq]
        refine List.ext_getElem HL.out fun i h1 h2 => ?_
        have := hall.out i h1
        simpa [List.getD, h1, h2] using this
  · have e0 : ((p.length : Int) != (q.length : Int)) = true := by simp; omega
    have HL := hid hlen
    clear hlen
    go_enter Try.func21, Try.ntmps21
    go_wp2
    go_ret
    refine ⟨ret_bool ?_, Qt.refl _⟩
    unfold uksameB
    symm
    rw [beq_eq_false_iff_ne]
    intro h
    exact HL.out (by rw [h])
theorem uksame_is {v v' : Value} {n n' B B' : Nat} {p q : List Int} {w : World} (b : Bool) (h : uksameB p q = b) (hs : Sl w B 1 v n (uks p)) (hs' : Sl w B' 1 v' n' (uks q)) :
    Calls Try.prog 21 #[v, v'] w fun e w' => e = .returned (.bool b) ∧ Qt w w' := by
  rw [← h]; exact uksame_any v v' n n' B B' p q w hs hs'

def ksP (l : List (Bool × Int)) : List Int := ((kd l).getD []).map (·.1)
def KsPost (w : World) (l : List Int) (n : Nat) (e : Ending) (w' : World) : Prop := ∃ v, e = .returned v ∧ Sl w' w'.heap.size 1 v n (uks l) ∧ Below w.heap.size w w'
def tks (d : List (Int × Int)) (j : Nat) : List Int := (d.take j).map (·.1)
theorem tks_all (d : List (Int × Int)) (j : Nat) (h : d.length = j) : tks d j = d.map (·.1) := by unfold tks; rw [List.take_of_length_le (by omega)]
theorem keys_take (d : List (Int × Int)) (j : Nat) (h : j < d.length) : uks (tks d j) ++ uks [d[j].1] = uks (tks d (j + 1)) := by
  unfold tks
  rw [uks_app, List.take_succ_eq_append_getElem h, List.map_append]; rfl
set_option maxRecDepth 100000 in
theorem vkeys_is {v : Value} {n : Nat} {l : List (Bool × Int)} {w : World} (hl : Sl w w.heap.size 2 v n (sls l)) (ks : List Int) (m : Nat) (hk : ksP l = ks) (hm : ks.length = m) :
    Calls Try.prog 17 #[v] w (KsPost w ks m) := by
  have HL := hid hl
  obtain ⟨d, hd⟩ : ∃ d, d = (kd l).getD [] := ⟨_, rfl⟩
  have hlen : d.length ≤ 100000 := by rw [hd]; exact kd_len
  have hkd : d.map (·.1) = ks := by rw [← hk, hd]; rfl
  have hmd : d.length = m := by rw [← hm, ← hkd]; simp
  have HK := hid hd
  have HM := hid hkd
  have HMD := hid hmd
  have HLEN := hid hlen
  have hml : m ≤ 100000 := by omega
  clear hl hk hm hd hkd hlen hmd
  go_enter Try.func17, Try.ntmps17
  go_wp2_with fail
  refine (keyed_any HL.out).mono ?_; rintro e w1 ⟨pt, rfl, i1, b1⟩
  rw [← HK.out] at i1
  have BB := hid (Bl.new b1 (.cells #[.pointer pt] 60))
  have I2 := hid (i1.new (.cells #[.pointer pt] 60))
  clear i1 b1
  go_wp2_with fail
  refine (pairs_any I2.out HLEN.out).mono ?_; rintro e w2 ⟨v2, rfl, s2, b2⟩
  have B3 := hid (Bl.call BB.out b2)
  rw [HMD.out] at s2
  obtain ⟨A, c, rfl, hnc, hcm, _, hx⟩ := s2
  have HX := hid hx
  clear hx b2 hcm hnc
  go_wp2_with fail
  go_loopw [5, 16] (fun ov iv wr => ∃ (j : Nat), iv = .int .i64 (j : Int) ∧ j ≤ m ∧ wr.ownsRow w2.heap.size 23 1 ov j (uks (tks d j)) ∧ Hid (Below w2.heap.size w2 wr)) (fun _ iv _ => m - (intOf iv).toNat)
  case atStart => exact ⟨0, rfl, Nat.zero_le _, World.ownsRow_nil _ _ _ _, hid (Below.refl _ _)⟩
  case round =>
    obtain ⟨j, rfl, hj, hown, HB⟩ := hrel
    by_cases hlt : j < m
    · have hji : (j : Int) < (m : Int) := by omega
      have hjd : j < d.length := by rw [HMD.out]; exact hlt
      obtain ⟨b, o, rfl, hbb, hc⟩ := HX.out (by omega)
      obtain ⟨q0, q1⟩ := prs_cell hc hjd
      have c0 := (HB.out.cell (p := ⟨b, o + j * 2, none⟩) hbb).trans q0
      have c1 := (HB.out.cell (p := ⟨b, o + j * 2 + 1, none⟩) hbb).trans q1
      have HT := hid (keys_take d j hjd)
      obtain ⟨x, hx⟩ : ∃ x, x = d[j] := ⟨_, rfl⟩
      rw [← hx] at c0 c1 HT
      have HO := hid (hown.alloc (.cells #[.int .u64 x.1, .int .i64 x.2] 71))
      have HH : Hid ((wr.alloc (.cells #[.int .u64 x.1, .int .i64 x.2] 71)).heap.size = wr.heap.size + 1) := hid (by simp)
      have HS : Hid (w2.heap.size ≤ (wr.alloc (.cells #[.int .u64 x.1, .int .i64 x.2] 71)).heap.size) := hid (by have := HB.out.size; simp; omega)
      clear hx hc q0 q1 hjd hown
      go_wp2_with (at_builtin; (refine wl_app1H rfl _ _ Tuks rfl (news := [.int .u64 x.1]) rfl HO.out rfl HH.out rfl (uks_one [x.1]) (by omega) HS.out ?_))
      intro v9 w9 hown9 hb9
      rw [show ([Value.int .u64 x.1] : List Value) = uks [x.1] from rfl, HT.out] at hown9
      go_wp2
      go_roundw
      case rel => exact ⟨j + 1, by go_num, by omega, hown9, hid (HB.out.trans (((Below.refl _ _).alloc HB.out.size _).trans hb9))⟩
      case measure => simp [intOf]; omega
    · obtain rfl : j = m := by omega
      have hji : ¬ (j : Int) < (j : Int) := by omega
      have HO := hid hown
      clear hown
      go_wp2
      go_ret
      have ho := HO.out
      rw [tks_all d j HMD.out, HM.out] at ho
      exact ⟨_, rfl, Sl.of_own ho, B3.out.trans (HB.out.mono B3.out.size)⟩
end Go.Proofs.Ytcbedngimgkcoaa
