/- Contracts of grove.Path, grove.Tree. -/
import Derived.Test.YtholhmdmpomabaaGroC
namespace Go.Proofs.Ytholhmdmpomabaa
open Go.RowKit Pt
set_option linter.unusedVariables false

theorem Teds : SlT 22 29 (.agg #[.int .i64 0, .int .i64 0, .int .i64 0]) 3 24 := SlT.mk Try.underlying22 (by kernel_rfl) rfl (by decide) (by decide)
section
variable {ops : Array Oper} {rest : List Oper} {o : Oper} {a : Act} {Q : Exit → Act → World → Prop} {w : World}
/-- out = append(out, x), the thing in a block of its own; all but out's own row is as it was. -/
theorem wl_appG (hw : Region.wanted o (yielded ops a.tmps) = true) (s x : Operand) {t e : TypeId} {z : Value} {sz by_ : Nat} (hT : SlT t e z sz by_) (hop : o.op = .call { callee := .builtin .append, args := #[s, x], argTypes := #[t, t] })
    {base : Nat} {v : Value} {n : Nat} {xs : List Value} (hs : a.eval s = v) (hown : w.ownsRow base e sz v n xs) {b : Nat} {e' : TypeId} {news : List Value} (hx : a.eval x = .slice (some ⟨b, 0, none⟩) 1 1) (hblk : Blk w b e' news)
    (hl : news.length = sz) (h1 : ∀ u ∈ news, u.oneCell' = true) (hb : (n + 1) * by_ ≤ 140737488355328) (hbase : base ≤ w.heap.size)
    (h : ∀ v' w', w'.ownsRow base e sz v' (n + 1) (xs ++ news) → Grw w w' v v' → (∃ g cap, v' = .slice (some ⟨g, 0, none⟩) (n + 1) cap) → wpList Try.prog ops Q rest (a.put o.dst v') w') : wpList Try.prog ops Q (o :: rest) a w := by
  refine BigFrame.wpList_want hw fun K hK => ?_
  obtain ⟨hu, ⟨i, hi, hz, hsz, hby⟩, hzs, h0, h0b⟩ := hT
  have h63 : n + 1 ≤ maxLen := by
    have : n + 1 ≤ (n + 1) * by_ := Nat.le_mul_of_pos_right _ h0b
    unfold maxLen; omega
  refine wp_append_lies w s x t hop base e i z sz by_ hu hi hz hsz hby hzs h0 v n xs hs hown ⟨b, 0, none⟩ 1 1 news hx (by omega) (fun j u hu => ?_) h1 (by omega) h63 hb hbase _ rfl ?_
  · rw [Addr.add_lit, Nat.zero_add, hblk.cell]; exact hu
  · intro g cap w' h2 h3 h4 h5
    refine hK _ _ (h _ w' h2 ⟨h3, ?_⟩ ⟨g, cap, rfl⟩)
    rcases h4 with h4 | h4
    · exact .inl (by rw [h4]; rfl)
    · refine .inr fun g' hg => ?_
      have : g = g' := by simpa [Value.ownBlock] using hg
      omega
end
theorem cn_step {n : Nat} {l : List PE} (hl : MayL n l) {i : Nat} {e : PE} (hi : l[i]? = some e) {x v : Int} (hx : e.1 = x ∨ e.2 = x) (hc : Cn n l x v) : Cn n l (oth e x) v := by
  have := (oth_eq (g (partOf n l)) hx).1 (Cn.edge hl (List.mem_of_getElem? hi))
  unfold Cn at *
  rw [← this, hc]

def PtPost (n : Nat) (l : List Ed) (u v : Int) (w : World) (e : Ending) (w' : World) : Prop :=
  ∃ v' p, e = .returned (.tuple #[v', .int .i64 0]) ∧ Sm (uv l) u p v ∧ Sl w' w'.heap.size 3 v' p.length (eds (edsAt l p)) ∧ Below w.heap.size w w'

/-- The ends are apart. -/
theorem path_none {n : Nat} (hn : n ≤ 1024) {v0 : Value} {m : Nat} {l : List Ed} {w : World} (hs : Sl w w.heap.size 3 v0 m (eds l)) (hf : Fst n (uv l)) {u v : Int} (hu : InR n u) (hv : InR n v) (hc : ¬ Cn n (uv l) u v) :
    Calls Try.prog 9 #[.int .i64 n, v0, .int .i64 u, .int .i64 v] w fun e w' => e = .returned (.tuple #[.slice none 0 0, .int .i64 3]) ∧ Below w.heap.size w w' := by
  have HS := hid hs
  have HF := hid hf
  have HU := hid hu
  have HV := hid hv
  have HPU := hid ((placeB_iff n u).2 hu)
  have HPV := hid ((placeB_iff n v).2 hv)
  obtain ⟨u0, u1⟩ := hu
  have hne : u ≠ v := fun h => hc (by rw [h]; rfl)
  have t0 : (u != v) = true := by simp [hne]
  have HC := hid (And.intro hc hne)
  clear hs hf hv hc hne
  go_enter Try.func9, Try.ntmps9
  go_wp2_with fail
  refine (gright_yes hn HS.out HF.out).mono ?_; rintro e w1 ⟨rfl, b1⟩
  have HB1 := hid b1
  have HS1 := hid (HS.out.call b1)
  clear b1
  go_wp2_with fail
  refine (vertex_is true HPU.out _).mono ?_; rintro e w' ⟨rfl, rfl⟩
  go_wp2_with fail
  refine (vertex_is true HPV.out _).mono ?_; rintro e w' ⟨rfl, rfl⟩
  go_wp2_with fail
  refine (leads_any hn HS1.out HF.out HV.out).mono ?_; rintro e w2 ⟨v', lead, rfl, hld, hsl, b2⟩
  have HB2 := hid (Bl.call HB1.out b2)
  have hgu : g lead u = -1 := by
    obtain ⟨_, d, hd⟩ := hld
    rcases hd u HU.out HC.out.2 with h | h
    · exact absurd h.1 HC.out.1
    · exact h.2
  have hln := hld.1
  obtain ⟨A, c, rfl, hnc, hcm, hll, hx⟩ := hsl
  obtain ⟨bk, o, rfl, hlt, hcell⟩ := hx (by omega)
  have c0 : w2.cell? ⟨bk, o + u.toNat, none⟩ = some (.int .i64 (-1)) := by
    have := ints_cell hcell (k := u.toNat) (by omega)
    rw [← hgu]; exact this
  clear hld hgu hx hcell b2
  go_wp2_with fail
  go_loopw [11, 12] (fun p x wr => p = .slice none 0 0 ∧ x = .int .i64 u ∧ wr = w2) (fun _ _ _ => 0)
  case atStart => exact ⟨rfl, rfl, rfl⟩
  case round =>
    obtain ⟨rfl, rfl, rfl⟩ := hrel
    go_wp2
    go_ret2
    exact ⟨rfl, HB2.out⟩

set_option maxHeartbeats 2000000 in
theorem path_ok {n : Nat} (hn : n ≤ 1024) {v0 : Value} {m : Nat} {l : List Ed} {w : World} (hs : Sl w w.heap.size 3 v0 m (eds l)) (hf : Fst n (uv l)) {u v : Int} (hu : InR n u) (hv : InR n v) (hc : Cn n (uv l) u v) :
    Calls Try.prog 9 #[.int .i64 n, v0, .int .i64 u, .int .i64 v] w (PtPost n l u v w) := by
  have hl : l.length = m := by have := hs.len; rw [len_eds] at this; omega
  subst hl
  have HS := hid hs
  have HF := hid hf
  have HU := hid hu
  have HV := hid hv
  have HC := hid hc
  have HPU := hid ((placeB_iff n u).2 hu)
  have HPV := hid ((placeB_iff n v).2 hv)
  have hle : l.length ≤ n := by
    have := hf.2
    have h3 : (uv l).length = l.length := by simp [uv]
    omega
  clear hs hf hu hv hc
  go_enter Try.func9, Try.ntmps9
  go_wp2_with fail
  refine (gright_yes hn HS.out HF.out).mono ?_; rintro e w1 ⟨rfl, b1⟩
  have HB1 := hid b1
  have HS1 := hid (HS.out.call b1)
  clear b1
  go_wp2_with fail
  refine (vertex_is true HPU.out _).mono ?_; rintro e w' ⟨rfl, rfl⟩
  go_wp2_with fail
  refine (vertex_is true HPV.out _).mono ?_; rintro e w' ⟨rfl, rfl⟩
  go_wp2_with fail
  refine (leads_any hn HS1.out HF.out HV.out).mono ?_; rintro e w2 ⟨v', lead, rfl, hld, hsl, b2⟩
  have HB2 := hid (Bl.call HB1.out b2)
  have HS2 := hid (HS1.out.call b2)
  obtain ⟨hln, d, hd⟩ := hld
  have HD := hid hd
  have HL := hid hsl
  clear hd hsl b2
  obtain ⟨A, c, hv0, hnc, hcm, hll, hx⟩ := HS2.out
  subst hv0
  obtain ⟨A2, c2, hv2, hnc2, hcm2, hll2, hx2⟩ := HL.out
  subst hv2
  have HX := hid hx
  have HX2 := hid hx2
  have hcm' : (l.length : Int) ≤ 1024 := by omega
  clear hx hx2 hll hll2
  go_wp2_with fail
  go_loopw [11, 12] (fun pv xv wr => ∃ (p : List Nat) (x : Int), xv = .int .i64 x ∧ Hid (InR n x) ∧ Hid (Cn n (uv l) x v) ∧ Hid (Dn (uv l) d u p x) ∧ Hid (wr.ownsRow w2.heap.size 29 3 pv p.length (eds (edsAt l p))) ∧ Hid (Below w2.heap.size w2 wr)) (fun _ x _ => d (intOf x))
  case atStart => exact ⟨[], u, rfl, HU, HC, rfl, World.ownsRow_nil _ _ _ _, hid (Below.refl _ _)⟩
  case round =>
    obtain ⟨p, x, rfl, HXR, HCX, HDN, HO, HB⟩ := hrel
    obtain ⟨hx0, hx1⟩ := HXR.out
    by_cases hxv : x = v
    · subst hxv
      have t0 : (x != x) = false := by simp
      go_wp2
      go_ret2
      exact ⟨_, p, rfl, HDN.out.sm.1, Sl.of_own HO.out, HB2.out.trans (HB.out.mono HB2.out.size)⟩
    · have t0 : (x != v) = true := by simp [hxv]
      obtain ⟨i, e, hgi, hei, hex, hdl⟩ : ∃ (i : Nat) (e : PE), g lead x = (i : Int) ∧ (uv l)[i]? = some e ∧ (e.1 = x ∨ e.2 = x) ∧ d (oth e x) < d x := by
        rcases HD.out x HXR.out hxv with h | h
        · exact h.2
        · exact absurd HCX.out h.1
      obtain ⟨bk, o, rfl, hlt, hcell⟩ := HX2.out (by omega)
      have c0 : wr.cell? ⟨bk, o + x.toNat, none⟩ = some (.int .i64 (i : Int)) := by
        have := ints_cell hcell (k := x.toNat) (by omega)
        rw [HB.out.cell (p := ⟨bk, o + x.toNat, none⟩) hlt, ← hgi]; exact this
      have hil : i < l.length := by
        have := (List.getElem?_eq_some_iff.1 hei).1
        simpa [uv] using this
      have hii : (i : Int) < (l.length : Int) := by omega
      have hei2 := uv_at hil
      rw [hei] at hei2
      injection hei2 with hei2
      obtain ⟨bl, ol, rfl, hbl, hcl⟩ := HX.out (by omega)
      obtain ⟨q0, q1, q2⟩ := eds_cell hcl hil
      have r0 := (HB.out.cell (p := ⟨bl, ol + i * 3, none⟩) hbl).trans q0
      have r1 := (HB.out.cell (p := ⟨bl, ol + i * 3 + 1, none⟩) hbl).trans q1
      have r2 := (HB.out.cell (p := ⟨bl, ol + i * 3 + 2, none⟩) hbl).trans q2
      have HED : Hid (edsAt l (p ++ [i]) = edsAt l p ++ [l[i]]) := hid (edsAt_snoc l p (List.getElem?_eq_getElem hil))
      have HPL : Hid (p.length ≤ 1024) := hid (by
        have := HDN.out.sm.1
        have := this.short HF.out.1 HU.out
        omega)
      generalize l[i] = ed at r0 r1 r2 HED hei2
      obtain ⟨ex, ey, et⟩ := ed
      dsimp only at r0 r1 r2 hei2
      subst hei2
      obtain ⟨y, hy⟩ : ∃ y, oth (ex, ey) x = y := ⟨_, rfl⟩
      have HY := hid hy
      have HE := hid (And.intro hei (And.intro hex hdl))
      have HSZ := hid HB.out.size
      clear hgi hei hex hdl hcell hcl q0 q1 q2 hy hxv
      obtain ⟨w5, hw5⟩ : ∃ w5, w5 = (wr.alloc (.cells #[.int .i64 ex, .int .i64 ey, .int .i64 et] 29)).alloc (.cells #[.int .i64 ex, .int .i64 ey, .int .i64 et] 29) := ⟨_, rfl⟩
      have hb5 : Below wr.heap.size wr w5 := by rw [hw5]; exact Bl.new (bel_new _ _) _
      have HO5 := hid (own_below HO.out hb5)
      have HB5 := hid (HB.out.trans (hb5.mono HB.out.size))
      have HK5 : Hid (Blk w5 wr.heap.size 29 [.int .i64 ex, .int .i64 ey, .int .i64 et]) := hid (by rw [hw5]; exact (Blk.new wr _ [.int .i64 ex, .int .i64 ey, .int .i64 et]).alloc _)
      have HN5 : Hid (Blk w5 (wr.heap.size + 1) 29 [.int .i64 ex, .int .i64 ey, .int .i64 et]) := hid (by
        rw [hw5]
        have := Blk.new (wr.alloc (.cells #[.int .i64 ex, .int .i64 ey, .int .i64 et] 29)) 29 [.int .i64 ex, .int .i64 ey, .int .i64 et]
        simpa using this)
      have HNE : Hid (some wr.heap.size ≠ u11.ownBlock) := hid (fun e => by have := (HO.out.lt _ e.symm).2; omega)
      have HW5 := hid hw5
      clear hw5 hb5
      go_wp2_with (at_builtin; rw [← HW5.out]; (refine wl_appG rfl _ _ Teds rfl rfl HO5.out rfl HN5.out rfl (eds_one [(ex, ey, et)]) (by have := HPL.out; omega) HB5.out.size ?_))
      intro v3 w3 hO3 hG3 gb gc hv3
      subst hv3
      have HO3 := hid hO3
      have HB3 := hid (HB5.out.trans (hG3.below HO5.out HB5.out.size))
      have hK3 := hG3.blk HK5.out HNE.out
      have k0 := hK3.cell 0
      have k1 := hK3.cell 1
      have k2 := hK3.cell 2
      clear hO3 hG3 hK3 r0 r1 r2 c0
      go_wp2_with fail
      refine (other_is HY.out _).mono ?_; rintro e w6 ⟨rfl, b6⟩
      have HB6 := hid (HB3.out.trans (b6.mono HB3.out.size))
      have HO6 := hid (own_below HO3.out b6)
      clear b6 k0 k1 k2
      go_wp2
      go_roundw
      case rel =>
        obtain ⟨h1, h2, h3⟩ := HE.out
        have hyr : InR n y := by rw [← HY.out]; exact oth_in (HF.out.1 _ (List.mem_of_getElem? h1)) x
        refine ⟨p ++ [i], y, rfl, hyr, ?_, ?_, ?_, HB6⟩
        · rw [← HY.out]; exact cn_step HF.out.1 h1 h2 HCX.out
        · rw [← HY.out]; exact HDN.out.snoc h1 h2 h3
        · rw [HED.out, ← eds_app, List.length_append]; exact HO6
      case measure =>
        have h3 := HE.out.2.2
        rw [HY.out] at h3
        simpa [intOf] using h3

theorem path_bad {n : Nat} (hn : n ≤ 1024) {v0 : Value} {m : Nat} {l : List Ed} {w : World} (hs : Sl w w.heap.size 3 v0 m (eds l)) (hf : Fst n (uv l)) {u v : Int} (hu : ¬ (InR n u ∧ InR n v)) :
    Calls Try.prog 9 #[.int .i64 n, v0, .int .i64 u, .int .i64 v] w fun e w' => e = .returned (.tuple #[.slice none 0 0, .int .i64 1]) ∧ Below w.heap.size w w' := by
  have HS := hid hs
  have HF := hid hf
  clear hs hf
  by_cases h : InR n u
  · have hv : ¬ InR n v := fun hv => hu ⟨h, hv⟩
    have HPU := hid ((placeB_iff n u).2 h)
    have HPV : Hid (placeB n v = false) := hid (by rw [← Bool.not_eq_true, placeB_iff]; exact hv)
    clear hu h hv
    go_enter Try.func9, Try.ntmps9
    go_wp2_with fail
    refine (gright_yes hn HS.out HF.out).mono ?_; rintro e w1 ⟨rfl, b1⟩
    have HB1 := hid b1
    clear b1
    go_wp2_with fail
    refine (vertex_is true HPU.out _).mono ?_; rintro e w' ⟨rfl, rfl⟩
    go_wp2_with fail
    refine (vertex_is false HPV.out _).mono ?_; rintro e w' ⟨rfl, rfl⟩
    go_wp2
    go_ret2
    exact ⟨rfl, HB1.out⟩
  · have HPU : Hid (placeB n u = false) := hid (by rw [← Bool.not_eq_true, placeB_iff]; exact h)
    clear hu h
    go_enter Try.func9, Try.ntmps9
    go_wp2_with fail
    refine (gright_yes hn HS.out HF.out).mono ?_; rintro e w1 ⟨rfl, b1⟩
    have HB1 := hid b1
    clear b1
    go_wp2_with fail
    refine (vertex_is false HPU.out _).mono ?_; rintro e w' ⟨rfl, rfl⟩
    go_wp2
    go_ret2
    exact ⟨rfl, HB1.out⟩

theorem tree_any {n : Nat} (hn : n ≤ 1024) {v0 : Value} {m : Nat} {l : List Ed} {w : World} (hs : Sl w w.heap.size 3 v0 m (eds l)) (hf : Fst n (uv l)) (v : Int) :
    Calls Try.prog 12 #[.int .i64 n, v0, .int .i64 v] w fun e w' => ∃ v', e = .returned v' ∧ Sl w' w'.heap.size 1 v' (classL (partOf n (uv l)) v).length (ints (classL (partOf n (uv l)) v)) ∧ Below w.heap.size w w' := by
  have HS := hid hs
  have HF := hid hf
  have HM := hid (fst_may hf)
  clear hs hf
  go_enter Try.func12, Try.ntmps12
  go_wp2_with fail
  refine (gright_yes hn HS.out HF.out).mono ?_; rintro e w1 ⟨rfl, b1⟩
  have HB1 := hid b1
  have HS1 := hid (HS.out.call b1)
  clear b1
  go_wp2_with fail
  refine (of_ok hn HS1.out (Nat.le_refl _) HM.out).mono ?_; rintro e w2 ⟨v2, rfl, hS, b2⟩
  have HB2 := hid (Bl.call HB1.out b2)
  have HS2 := hid hS
  clear b2 hS
  go_wp2_with fail
  refine (class_any _ _ _ _ _ _ HS2.out (Nat.le_refl _) (by omega)).mono ?_; rintro e w3 ⟨v3, rfl, ho, b3⟩
  have HB3 := hid (Bl.call HB2.out b3)
  have HO3 := hid ho
  clear b3 ho
  go_wp2
  go_ret
  exact ⟨_, rfl, Sl.of_own HO3.out, HB3.out⟩
end Go.Proofs.Ytholhmdmpomabaa
