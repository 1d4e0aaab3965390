/- Two rows that lie apart: appending to either. -/
import Derived.Test.YtcbedngimgkcoaaVerQ
import Derived.Deep.AppendLies
import Derived.Deep.RegionHeldLaw
import Derived.Test.YtcbedngimgkcoaaVertsKeep
namespace Go.Proofs.Ytcbedngimgkcoaa
open Go.RowKit
set_option linter.unusedVariables false
set_option linter.unusedSimpArgs false
theorem own_grown {w w' : World} {base : Nat} {e : TypeId} {sz n : Nat} {v : Value} {xs : List Value} {r : Option Nat} (h : w.ownsRow base e sz v n xs) (hg : w.grownBy w' r) (hne : ∀ g, r = some g → v.ownBlock ≠ some g) : w'.ownsRow base e sz v n xs := by
  refine ⟨h.1, ?_⟩
  rcases h.2 with hn | ⟨k, cap, cur, rfl, hbk, hh, rest⟩
  · exact .inl hn
  · refine .inr ⟨k, cap, cur, rfl, hbk, (hg.block k (Array.getElem?_eq_some_iff.1 hh).1 fun e => ?_).trans hh, rest⟩
    exact hne k e.symm rfl
/-- Two rows of the call's own, in blocks of their own. -/
def Two (w : World) (B : Nat) (v1 : Value) (ks : List Int) (v2 : Value) (is_ : List Int) (m : Nat) : Prop :=
  w.ownsRow B 23 1 v1 m (uks ks) ∧ w.ownsRow B 3 1 v2 m (ints is_) ∧ ∀ g, v1.ownBlock = some g → v2.ownBlock ≠ some g
theorem Two.call {w w' : World} {B m : Nat} {v1 v2 : Value} {ks is_ : List Int} (h : Two w B v1 ks v2 is_ m) (hb : Below w.heap.size w w') : Two w' B v1 ks v2 is_ m := ⟨own_below h.1 hb, own_below h.2.1 hb, h.2.2⟩
theorem Two.nil (w : World) (B : Nat) : Two w B (.slice none 0 0) [] (.slice none 0 0) [] 0 := ⟨World.ownsRow_nil _ _ _ _, World.ownsRow_nil _ _ _ _, fun g h => by cases h⟩
theorem Two.sl1 {w : World} {B m : Nat} {v1 v2 : Value} {ks is_ : List Int} (h : Two w B v1 ks v2 is_ m) : Sl w w.heap.size 1 v1 m (uks ks) := Sl.of_own h.1
theorem Two.sl2 {w : World} {B m : Nat} {v1 v2 : Value} {ks is_ : List Int} (h : Two w B v1 ks v2 is_ m) : Sl w w.heap.size 1 v2 m (ints is_) := Sl.of_own h.2.1
section
variable {ops : Array Oper} {rest : List Oper} {o : Oper} {a : Act} {Q : Exit → Act → World → Prop} {w : World}
/-- out = append(out, x), and where the new row lies. -/
theorem wl_app1L (hgd : o.guard = none) (s x : Operand) {t e : TypeId} {z : Value} {by_ : Nat} (hT : SlT t e z 1 by_) (hop : o.op = .call { callee := .builtin .append, args := #[s, x], argTypes := #[t, t] })
    {base : Nat} {v : Value} {n : Nat} {xs : List Value} {y : Value} {e' : TypeId} (hs : a.eval s = v) (hown : w.ownsRow base e 1 v n xs) {H : Nat} (hx : a.eval x = .slice (some ⟨H, 0, none⟩) 1 1) (hH : w.heap.size = H)
    (h1 : y.oneCell' = true) (hb : (n + 1) * by_ ≤ 140737488355328) (hbase : base ≤ w.heap.size)
    (h : ∀ g cap w', w'.ownsRow base e 1 (.slice (some ⟨g, 0, none⟩) (n + 1) cap) (n + 1) (xs ++ [y]) → w.grownBy w' v.ownBlock → (v.ownBlock = some g ∨ w.heap.size ≤ g) → g < w'.heap.size → wpList Try.prog ops Q rest (a.put o.dst (.slice (some ⟨g, 0, none⟩) (n + 1) cap)) w') :
    wpList Try.prog ops Q (o :: rest) a (w.alloc (.cells #[y] e')) := by
  obtain ⟨hu, ⟨i, hi, hz, hsz, hby⟩, hzs, h0, h0b⟩ := hT
  have h63 : n + 1 ≤ maxLen := by
    have : n + 1 ≤ (n + 1) * by_ := Nat.le_mul_of_pos_right _ h0b
    unfold maxLen; omega
  subst hH
  refine wpList_append_lies (w.alloc (.cells #[y] e')) hgd s x t hop base e i z 1 by_ hu hi hz hsz hby hzs h0 v n xs hs (hown.alloc _) ⟨w.heap.size, 0, none⟩ 1 1 [y] hx rfl (fun j u hu => ?_) (fun u hu => by simp at hu; subst hu; exact h1) (by omega) h63 hb (by simp; omega) _ rfl ?_
  · rw [Addr.add_lit, Nat.zero_add]; exact ((Blk.new w e' [y]).cell j).trans hu
  · intro g cap w' h2 h3 h4 h5
    refine h g cap w' h2 ⟨h3.os, h3.tape, h3.output, Nat.le_trans (by simp) h3.size, fun k hk hne => (h3.block k (by simp; omega) hne).trans (Below.heap_alloc w _ k hk)⟩ ?_ h5
    rcases h4 with h4 | h4
    · exact .inl h4
    · exact .inr (by rw [h4]; simp)
/-- append(out, src...) at a step of a region that draws. -/
theorem step_appS {K : Act → World → Prop} {E : Prop} (hgd : o.guard = none) (s x : Operand) {t e : TypeId} {z : Value} {sz by_ : Nat} (hT : SlT t e z sz by_) (hop : o.op = .call { callee := .builtin .append, args := #[s, x], argTypes := #[t, t] })
    {base : Nat} {v : Value} {n : Nat} {xs : List Value} (hs : a.eval s = v) (hown : w.ownsRow base e sz v n xs) {B : Nat} {src : Value} {m : Nat} {news : List Value} (hx : a.eval x = src) (hsl : Sl w B sz src m news)
    (h1 : ∀ u ∈ news, u.oneCell' = true) (hb : (n + m) * by_ ≤ 140737488355328) (hbase : base ≤ w.heap.size)
    (h : ∀ v' w', w'.ownsRow base e sz v' (n + m) (xs ++ news) → Below base w w' → K (a.put o.dst v') w') : if Region.wanted o (yielded ops a.tmps) = true then Oper.wp Try.prog o a w K Q else E := by
  have hw : Region.wanted o (yielded ops a.tmps) = true := by simp [Region.wanted, hgd]
  rw [if_pos hw]
  exact wp_app s x hT hop hs hown hx hsl h1 hb hbase h
end
/-- Both appended to. -/
theorem Two.app {w wa wb : World} {B m g cap g2 cap2 : Nat} {v1 v2 : Value} {ks is_ : List Int} {k i : Int} (h : Two w B v1 ks v2 is_ m)
    (o1 : wa.ownsRow B 23 1 (.slice (some ⟨g, 0, none⟩) (m + 1) cap) (m + 1) (uks ks ++ [.int .u64 k])) (g1 : w.grownBy wa v1.ownBlock) (n1 : v1.ownBlock = some g ∨ w.heap.size ≤ g) (l1 : g < wa.heap.size)
    (o2 : wb.ownsRow B 3 1 (.slice (some ⟨g2, 0, none⟩) (m + 1) cap2) (m + 1) (ints is_ ++ [.int .i64 i])) (gr2 : wa.grownBy wb v2.ownBlock) (n2 : v2.ownBlock = some g2 ∨ wa.heap.size ≤ g2) :
    Two wb B (.slice (some ⟨g, 0, none⟩) (m + 1) cap) (ks ++ [k]) (.slice (some ⟨g2, 0, none⟩) (m + 1) cap2) (is_ ++ [i]) (m + 1) := by
  obtain ⟨h1, h2, h3⟩ := h
  have hg : v2.ownBlock ≠ some g := by
    rcases n1 with n1 | n1
    · exact h3 g n1
    · intro e
      have := (h2.lt g e).2
      omega
  refine ⟨?_, ?_, ?_⟩
  · have e : uks (ks ++ [k]) = uks ks ++ [.int .u64 k] := by simp [uks]
    rw [e]
    refine own_grown o1 gr2 fun q hq e2 => ?_
    simp [Value.ownBlock] at e2
    subst e2
    exact hg hq
  · have e : ints (is_ ++ [i]) = ints is_ ++ [.int .i64 i] := by simp [ints]
    rw [e]; exact o2
  · intro q hq
    simp [Value.ownBlock] at hq ⊢
    subst hq
    rcases n2 with n2 | n2
    · rintro rfl; exact hg n2
    · omega
theorem Two.mid {w wa : World} {B m g cap : Nat} {v1 v2 : Value} {ks is_ : List Int} {k : Int} (h : Two w B v1 ks v2 is_ m) (g1 : w.grownBy wa v1.ownBlock) : wa.ownsRow B 3 1 v2 m (ints is_) :=
  own_grown h.2.1 g1 fun q hq => h.2.2 q hq
theorem grown_bel {w wa : World} {B : Nat} {e : TypeId} {sz n : Nat} {v : Value} {xs : List Value} (h : w.ownsRow B e sz v n xs) (g1 : w.grownBy wa v.ownBlock) (hb : B ≤ w.heap.size) : Below B w wa := grown_below h g1 hb
theorem own_bel_grown {w wa wb : World} {B : Nat} {e : TypeId} {sz n : Nat} {v : Value} {xs : List Value} (h : wa.ownsRow B e sz v n xs) (g : wa.grownBy wb v.ownBlock) (hb : B ≤ wa.heap.size) : Below B wa wb := grown_below h g hb
/-- Where a slot was free the new slots lie in a new block. -/
def AddOwn (w : World) (n : Nat) (l : List (Bool × Int)) (z1 z2 : Int) (e : Ending) (w' : World) : Prop := ∃ v, e = .returned (.tuple #[v, .int .i64 z1, .int .i64 z2]) ∧ w'.ownsRow w.heap.size 55 2 v n (sls l) ∧ Below w.heap.size w w'
theorem vadd_own {v : Value} {n : Nat} {l : List (Bool × Int)} {k : Int} {j : Nat} {w : World} (hl : Sl w w.heap.size 2 v n (sls l)) (h : Vt.Ok l) (hk : Vt.fn l k = none) (hf : Vt.ff l = some j) :
    Calls Try.prog 12 #[v, .int .u64 k] w (AddOwn w n (l.set j (true, k)) (j : Int) 0) := by
  have hll : l.length = n := by have := hl.len; rw [len_sls] at this; omega
  have HL := hid hl
  have HLen := hid (kd_len (l := l))
  obtain ⟨d, h1, h2⟩ := kd_ok h
  have hg := Vt.get_fn h2 h.2.2 k
  have HS : Hid ((Dc.get d k).isSome = false) := hid (by rw [hg, hk]; rfl)
  have HK := hid h1
  have HZ : Hid (ffZ l = (j : Int)) := hid (by unfold ffZ; rw [hf])
  obtain ⟨hjl, -⟩ := Vt.ff_some hf
  have hn2 : n ≤ 1024 := by have := h.2.1; omega
  have hjn : (j : Int) < (n : Int) := by omega
  have HJ := hid hjl
  clear hl h hk h1 h2 hg hf hll hjl
  go_enter Try.func12, Try.ntmps12
  go_wp2_with fail
  refine (keyed_any HL.out).mono ?_; rintro e w1 ⟨pt, rfl, i1, b1⟩
  rw [HK.out]
  have BB2 := hid (Bl.new b1 (.cells #[.pointer pt] 60))
  have I2 : Hid (IsD (w1.alloc (.cells #[.pointer pt] 60)) pt d) := hid (by rw [HK.out] at i1; exact i1.new _)
  have HLd : Hid (d.length ≤ 100000) := hid (by have := HLen.out; rw [HK.out] at this; exact this)
  clear i1 b1
  go_wp2_with fail
  refine (get_any (k := k) I2.out HLd.out).mono ?_; rintro e w2 ⟨rfl, b2⟩
  rw [HS.out]
  have BB3 := hid (Bl.call BB2.out b2)
  have HL3 := hid (HL.out.call BB3.out)
  clear b2
  go_wp2_with fail
  refine (vindex_is HL3.out _ HZ.out).mono ?_; rintro e w3 ⟨rfl, b3⟩
  have BB4 := hid (Bl.call BB3.out b3)
  have HL4 := hid (HL.out.call BB4.out)
  clear b3
  go_wp2_with fail
  refine (vclone_any _ n _ l _ HL4.out (Nat.le_refl _) (by omega)).mono ?_; rintro e w4 ⟨v4, rfl, o4, b4⟩
  obtain ⟨g, cap, rfl, hg1, hg2⟩ := own_form o4 (by omega)
  obtain ⟨c0, c1, f0, f1⟩ := own_cells o4 HJ.out
  have O5 := hid (own_slot o4 j true k)
  have B5 : Hid (Below w3.heap.size w3 ((w4.setCell ⟨g, j * 2, none⟩ (.bool true)).setCell ⟨g, j * 2 + 1, none⟩ (.int .u64 k))) := hid ((b4.setCell (p := ⟨g, j * 2, none⟩) hg1 _).setCell (p := ⟨g, j * 2 + 1, none⟩) hg1 _)
  have B6 := hid (Bl.call BB4.out B5.out)
  clear o4 b4 hg1 hg2
  go_wp2
  exact bodyPost_ret (v := .tuple #[.slice (some ⟨g, 0, none⟩) n cap, .int .i64 (j : Int), .int .i64 0]) (by simp [results, Try.results12, go_sem]) rfl ⟨_, rfl, own_more O5.out BB4.out.size, B6.out⟩
theorem own_apart {w wa : World} {B base : Nat} {e : TypeId} {sz n m : Nat} {v : Value} {xs : List Value} {v1 v2 : Value} {ks is_ : List Int} {w0 : World} (h : w.ownsRow base e sz v n xs) (h2 : Two w0 B v1 ks v2 is_ m) (hb : w0.heap.size ≤ base) (g1 : w.grownBy wa v1.ownBlock) : wa.ownsRow base e sz v n xs :=
  own_grown h g1 fun q hq e2 => by have := (h2.1.lt q hq).2; have := (h.lt q e2).1; omega
theorem own_apart2 {w wa : World} {B base : Nat} {e : TypeId} {sz n m : Nat} {v : Value} {xs : List Value} {v1 v2 : Value} {ks is_ : List Int} {w0 : World} (h : w.ownsRow base e sz v n xs) (h2 : Two w0 B v1 ks v2 is_ m) (hb : w0.heap.size ≤ base) (g1 : w.grownBy wa v2.ownBlock) : wa.ownsRow base e sz v n xs :=
  own_grown h g1 fun q hq e2 => by have := (h2.2.1.lt q hq).2; have := (h.lt q e2).1; omega
end Go.Proofs.Ytcbedngimgkcoaa
