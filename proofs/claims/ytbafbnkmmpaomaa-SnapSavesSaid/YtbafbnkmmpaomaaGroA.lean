/- Words on memory for the search: a row of rows; a queue. -/
import Derived.Test.YtbafbnkmmpaomaaMgPart
import Derived.Test.YtbafbnkmmpaomaaMgA
import Derived.Deep.AppendLies
import Derived.Deep.Upon
import Derived.ArgAppend
namespace Go.Proofs.Ytbafbnkmmpaomaa
open Go.RowKit Pt
set_option linter.unusedVariables false

/-- But for v's own block (and new ones) w' is as w was; v' is v's row, or a new one. -/
def GGrw (w w' : World) (v v' : Value) : Prop := w.grownBy w' v.ownBlock ∧ (v'.ownBlock = v.ownBlock ∨ ∀ g, v'.ownBlock = some g → w.heap.size ≤ g)
theorem GGrw.below {w w' : World} {base : Nat} {e : TypeId} {sz n : Nat} {v v' : Value} {xs : List Value} (h : GGrw w w' v v') (hown : w.ownsRow base e sz v n xs) (hb : base ≤ w.heap.size) : Below base w w' := grown_below hown h.1 hb
theorem GGrw.blk {w w' : World} {k : Nat} {t : TypeId} {v v' : Value} {cs : List Value} (h : GGrw w w' v v') (hk : Blk w k t cs) (hne : some k ≠ v.ownBlock) : Blk w' k t cs := (h.1.block k hk.lt hne).trans hk

theorem gstep_app {ops : Array Oper} {o : Oper} {a : Act} {K : Act → World → Prop} {Q : Exit → Act → World → Prop} {w : World} {E : Prop} (hgd : o.guard = none) (s x : Operand) {t e : TypeId} {z : Value} {sz by_ : Nat} (hT : SlT t e z sz by_) (hop : o.op = .call { callee := .builtin .append, args := #[s, x], argTypes := #[t, t] })
    {base : Nat} {v : Value} {n : Nat} {xs : List Value} (hs : a.eval s = v) (hown : w.ownsRow base e sz v n xs) {b : Nat} {e' : TypeId} {news : List Value} (hx : a.eval x = .slice (some ⟨b, 0, none⟩) 1 1) (hblk : Blk w b e' news)
    (hl : news.length = sz) (h1 : ∀ u ∈ news, u.oneCell' = true) (hb : (n + 1) * by_ ≤ 140737488355328) (hbase : base ≤ w.heap.size)
    (h : ∀ v' w', w'.ownsRow base e sz v' (n + 1) (xs ++ news) → GGrw w w' v v' → (∃ g cap, v' = .slice (some ⟨g, 0, none⟩) (n + 1) cap) → K (a.put o.dst v') w') : if Region.wanted o (yielded ops a.tmps) = true then Oper.wp Try.prog o a w K Q else E := by
  have hw : Region.wanted o (yielded ops a.tmps) = true := by simp [Region.wanted, hgd]
  rw [if_pos hw]
  obtain ⟨hu, ⟨i, hi, hz, hsz, hby⟩, hzs, h0, h0b⟩ := hT
  have h63 : n + 1 ≤ maxLen := by
    have : n + 1 ≤ (n + 1) * by_ := Nat.le_mul_of_pos_right _ h0b
    unfold maxLen; omega
  refine wp_append_lies w s x t hop base e i z sz by_ hu hi hz hsz hby hzs h0 v n xs hs hown ⟨b, 0, none⟩ 1 1 news hx (by omega) (fun j u hu => ?_) h1 (by omega) h63 hb hbase _ rfl ?_
  · rw [Addr.add_lit, Nat.zero_add, hblk.cell]; exact hu
  · intro g cap w' h2 h3 h4 h5
    refine h _ w' h2 ⟨h3, ?_⟩ ⟨g, cap, rfl⟩
    rcases h4 with h4 | h4
    · exact .inl (by rw [h4]; rfl)
    · refine .inr fun g' hg => ?_
      have : g = g' := by simpa [Value.ownBlock] using hg
      omega

theorem own_keep {w w' : World} {base : Nat} {e : TypeId} {sz n : Nat} {v : Value} {xs : List Value} (h : w.ownsRow base e sz v n xs) (hk : ∀ b, v.ownBlock = some b → w'.heap[b]? = w.heap[b]?) : w'.ownsRow base e sz v n xs := by
  refine ⟨h.1, ?_⟩
  rcases h.2 with hn | ⟨k, cap, cur, rfl, hbk, hh, rest⟩
  · exact .inl hn
  · exact .inr ⟨k, cap, cur, rfl, hbk, (hk k rfl).trans hh, rest⟩

/-! ## A row of rows -/
def svs (n : Nat) (sv : Nat → Value) : List Value := (List.range n).map sv
theorem len_svs (n : Nat) (sv : Nat → Value) : (svs n sv).length = n := by simp [svs]
theorem svs_at (n : Nat) (sv : Nat → Value) {x : Nat} (h : x < n) : (svs n sv)[x]? = some (sv x) := by simp [svs, h]
def up {α : Type} (f : Nat → α) (x : Nat) (a : α) : Nat → α := fun y => if y = x then a else f y
theorem svs_set (n : Nat) (sv : Nat → Value) (x : Nat) (v : Value) : (svs n sv).set x v = svs n (up sv x v) := by
  apply List.ext_getElem
  · simp [svs]
  · intro i h1 h2
    simp only [List.getElem_set, svs, List.getElem_map, List.getElem_range, up]
    by_cases h : x = i
    · subst h; simp
    · simp [h, Ne.symm h]
/-- Block K holds n rows of integers, each in a block of its own, none below base. -/
def Stars (w : World) (base K n : Nat) (sv : Nat → Value) (ls : Nat → List Nat) : Prop :=
  Blk w K 64 (svs n sv) ∧ base ≤ K ∧ (∀ x, x < n → w.ownsRow base 3 1 (sv x) (ls x).length (ints ((ls x).map Int.ofNat)) ∧ (sv x).ownBlock ≠ some K) ∧
    (∀ x y, x < n → y < n → x ≠ y → ∀ b, (sv x).ownBlock = some b → (sv y).ownBlock ≠ some b)
theorem Stars.call {w w' : World} {base K n : Nat} {sv : Nat → Value} {ls : Nat → List Nat} (h : Stars w base K n sv ls) (hb : Below w.heap.size w w') : Stars w' base K n sv ls :=
  ⟨h.1.below hb h.1.lt, h.2.1, fun x hx => ⟨own_below (h.2.2.1 x hx).1 hb, (h.2.2.1 x hx).2⟩, h.2.2.2⟩
theorem Stars.congr {w : World} {base K n : Nat} {sv : Nat → Value} {ls ls' : Nat → List Nat} (h : Stars w base K n sv ls) (he : ∀ x, x < n → ls x = ls' x) : Stars w base K n sv ls' :=
  ⟨h.1, h.2.1, fun x hx => by rw [← he x hx]; exact h.2.2.1 x hx, h.2.2.2⟩
theorem Stars.step {w w' : World} {base K n : Nat} {sv : Nat → Value} {ls : Nat → List Nat} (h : Stars w base K n sv ls) {x : Nat} (hx : x < n) {v' : Value} {i : Nat} (hg : GGrw w w' (sv x) v')
    (hown : w'.ownsRow base 3 1 v' ((ls x).length + 1) (ints ((ls x).map Int.ofNat) ++ [.int .i64 (i : Int)])) :
    Stars (w'.setCell ⟨K, x, none⟩ v') base K n (up sv x v') (up ls x (ls x ++ [i])) := by
  obtain ⟨h1, h2, h3, h4⟩ := h
  have hKx := (h3 x hx).2
  have hv'K : v'.ownBlock ≠ some K := by
    rcases hg.2 with e | e
    · rw [e]; exact hKx
    · intro e2; have := e K e2; have := h1.lt; omega
  have hset : ∀ b, b ≠ K → (w'.setCell ⟨K, x, none⟩ v').heap[b]? = w'.heap[b]? := fun b hb => Below.heap_setCell w' ⟨K, x, none⟩ v' b hb
  refine ⟨?_, h2, fun y hy => ?_, fun y z hy hz hyz b hb => ?_⟩
  · have := (hg.blk h1 (Ne.symm hKx)).put x v'
    rwa [svs_set] at this
  · by_cases hyx : y = x
    · subst hyx
      simp only [up, if_true]
      refine ⟨own_keep ?_ (fun b hb => hset b fun e => hv'K (by rw [hb, e])), hv'K⟩
      rw [List.length_append, List.map_append]
      unfold ints at hown ⊢
      rw [List.map_append]
      exact hown
    · simp only [up, hyx, if_false]
      refine ⟨own_keep (h3 y hy).1 (fun b hb => ?_), (h3 y hy).2⟩
      rw [hset b fun e => (h3 y hy).2 (by rw [hb, e])]
      exact hg.1.block b ((h3 y hy).1.lt b hb).2 fun e => h4 y x hy hx hyx b hb e.symm
  · by_cases hyx : y = x
    · subst hyx
      have hzy : ¬ z = y := fun e => hyz e.symm
      simp only [up, if_true] at hb
      simp only [up, hzy, if_false]
      rcases hg.2 with e | e
      · rw [e] at hb; exact h4 y z hy hz hyz b hb
      · intro e2
        have := e b hb
        have := ((h3 z hz).1.lt b e2).2
        omega
    · simp only [up, hyx, if_false] at hb
      by_cases hzx : z = x
      · subst hzx
        simp only [up, if_true]
        rcases hg.2 with e | e
        · rw [e]; exact h4 y z hy hz hyz b hb
        · intro e2
          have := e b e2
          have := ((h3 y hy).1.lt b hb).2
          omega
      · simp only [up, hzx, if_false]
        exact h4 y z hy hz hyz b hb
theorem Stars.start {w : World} {base K n : Nat} (h : Blk w K 64 (svs n fun _ => .slice none 0 0)) (hb : base ≤ K) : Stars w base K n (fun _ => .slice none 0 0) (fun _ => []) :=
  ⟨h, hb, fun x _ => ⟨World.ownsRow_nil _ _ _ _, fun e => by cases e⟩, fun x y _ _ _ b e => by cases e⟩

/-! ## A queue -/
/-- v is the queue xs, in block b. -/
def Qu (w : World) (b : Nat) (v : Value) (xs : List Int) : Prop :=
  ∃ o c, v = .slice (some ⟨b, o, none⟩) xs.length c ∧ xs.length ≤ c ∧ c ≤ maxLen ∧ (∃ cur, w.heap[b]? = some (.cells cur 3 (0, 0)) ∧ o + c ≤ cur.size) ∧ (∀ j u, (ints xs)[j]? = some u → w.cell? ⟨b, o + j, none⟩ = some u)
theorem Qu.keep {w w' : World} {b : Nat} {v : Value} {xs : List Int} (h : Qu w b v xs) (hk : w'.heap[b]? = w.heap[b]?) : Qu w' b v xs := by
  obtain ⟨o, c, h1, h2, h3, ⟨cur, h4, h5⟩, h6⟩ := h
  exact ⟨o, c, h1, h2, h3, ⟨cur, hk.trans h4, h5⟩, fun j u hu => (World.cell?_of_block (a := ⟨b, o + j, none⟩) hk).trans (h6 j u hu)⟩
theorem Qu.lt {w : World} {b : Nat} {v : Value} {xs : List Int} (h : Qu w b v xs) : b < w.heap.size := by
  obtain ⟨o, c, h1, h2, h3, ⟨cur, h4, h5⟩, h6⟩ := h
  exact (Array.getElem?_eq_some_iff.1 h4).1
theorem Qu.call {w w' : World} {b : Nat} {v : Value} {xs : List Int} (h : Qu w b v xs) (hb : Below w.heap.size w w') : Qu w' b v xs := h.keep (hb.block b h.lt)
theorem Qu.far {w : World} {b : Nat} {v : Value} {xs : List Int} (h : Qu w b v xs) {p : Addr} (hp : b ≠ p.block) (u : Value) : Qu (w.setCell p u) b v xs := h.keep (Below.heap_setCell w p u b hp)
theorem Qu.pop {w : World} {b o c n : Nat} {x : Int} {xs : List Int} (h : Qu w b (.slice (some ⟨b, o, none⟩) n c) (x :: xs)) (o' : Nat) (hc : (c = 1 ∧ o' = o) ∨ (2 ≤ c ∧ o' = o + 1)) : Qu w b (.slice (some ⟨b, o', none⟩) xs.length (c - 1)) xs := by
  obtain ⟨o1, c1, h1, h2, h3, ⟨cur, h4, h5⟩, h6⟩ := h
  injection h1 with e1 e2 e3
  injection e1 with e1
  injection e1 with _ e1 _
  subst e1 e3
  simp at h2
  refine ⟨o', c - 1, rfl, by omega, by omega, ⟨cur, h4, by omega⟩, fun j u hu => ?_⟩
  have hj : j < xs.length := by have := (List.getElem?_eq_some_iff.1 hu).1; rw [len_ints] at this; exact this
  rcases hc with ⟨hc, rfl⟩ | ⟨hc, rfl⟩
  · omega
  · have := h6 (j + 1) u (by simpa [ints] using hu)
    rwa [show o + 1 + j = o + (j + 1) by omega]
theorem Qu.new (w : World) (x : Int) : Qu (w.alloc (.cells #[.int .i64 x] 3)) w.heap.size (.slice (some ⟨w.heap.size, 0, none⟩) 1 1) [x] := by
  have hb := Blk.new w 3 [.int .i64 x]
  refine ⟨0, 1, rfl, Nat.le_refl _, by unfold maxLen; omega, ⟨_, hb, by simp⟩, fun j u hu => ?_⟩
  rw [Nat.zero_add]
  exact (hb.cell j).trans hu

section
variable {ops : Array Oper} {rest : List Oper} {o : Oper} {a : Act} {Q : Exit → Act → World → Prop} {w : World}
/-- queue = append(queue, x), the one-cell row of x in a new block. -/
theorem wl_qapp (hw : Region.wanted o (yielded ops a.tmps) = true) (s x : Operand) (hop : o.op = .call { callee := .builtin .append, args := #[s, x], argTypes := #[64, 64] })
    {b : Nat} {v : Value} {xs : List Int} {y : Int} (hs : a.eval s = v) (hq : Qu w b v xs) {H : Nat} (hx0 : a.eval x = .slice (some ⟨H, 0, none⟩) 1 1) (hn : xs.length ≤ 100000) (hH : w.heap.size = H)
    (h : ∀ b' v' w', Qu w' b' v' (xs ++ [y]) → (b' = b ∨ w.heap.size ≤ b') → w.grownBy w' (some b) → wpList Try.prog ops Q rest (a.put o.dst v') w') : wpList Try.prog ops Q (o :: rest) a (w.alloc (.cells #[.int .i64 y] 3)) := by
  obtain ⟨hu, ⟨i, hi, hz, hsz, hby⟩, hzs, h0, h0b⟩ := Tints
  have hx : a.eval x = .slice (some ⟨w.heap.size, 0, none⟩) 1 1 := by rw [hH]; exact hx0
  have hlt := hq.lt
  have hqa : Qu (w.alloc (.cells #[.int .i64 y] 3)) b v xs := hq.call (bel_new _ _)
  have hcell : ∀ j u, [Value.int .i64 y][j]? = some u → (w.alloc (.cells #[.int .i64 y] 3)).cell? ((⟨w.heap.size, 0, none⟩ : Addr).add j) = some u := fun j u hu => by
    rw [Addr.add_lit, Nat.zero_add]; exact ((Blk.new w 3 [.int .i64 y]).cell j).trans hu
  have h1 : ∀ u ∈ [Value.int .i64 y], u.oneCell' = true := fun u hu => by simp at hu; subst hu; rfl
  obtain ⟨of, c, rfl, hlc, hcm, ⟨cur, hh, hsize⟩, hxs⟩ := hqa
  refine BigFrame.wpList_want hw fun K hK => ?_
  by_cases hr : xs.length + 1 ≤ c
  · have hrun := run_append_room_cells (P := Try.prog) (w.alloc (.cells #[.int .i64 y] 3)) 64 o.type 3 i hu hi b of xs.length c ⟨w.heap.size, 0, none⟩ 1 1 [.int .i64 y] (by rw [hsz]; rfl) hcell h1 hr
      (fun j hj => by
        have : j = 0 := by simpa using hj
        subst this
        rw [cell_of_row _ b _ cur _ (0, 0) hh, Array.getElem?_eq_getElem (by rw [hsz]; omega)]; rfl)
      (fun j hj => by simp [World.frozen?, hh])
    unfold Oper.wp execOp
    simp only [hop, resolve, invoke, builtin, Sem.run_bind, Sem.run_pure, Result.andThen_ok, List.map_toArray, List.map_cons, List.map_nil, hs, hx, hrun]
    refine hK _ _ (h b _ _ ⟨of, c, by simp, by simpa using hr, hcm, ?_, ?_⟩ (.inl rfl) ?_)
    · refine ⟨cur.setIfInBounds (of + xs.length * i.size) (.int .i64 y), ?_, by simp; omega⟩
      simp [World.setCells, World.setCell, Array.getElem?_modify, hh]
    · intro j u hu
      simp only [ints, List.map_append, List.map_cons, List.map_nil] at hu
      have hb2 : ((w.alloc (.cells #[.int .i64 y] 3)).setCells b (of + xs.length * i.size) [.int .i64 y]).heap[b]? = some (.cells (cur.setIfInBounds (of + xs.length * i.size) (.int .i64 y)) 3 (0, 0)) := by
        simp [World.setCells, World.setCell, Array.getElem?_modify, hh]
      rw [cell_of_row _ b _ _ _ (0, 0) hb2]
      rcases Nat.lt_or_ge j xs.length with hj | hj
      · rw [List.getElem?_append_left (by simpa using hj)] at hu
        have := hxs j u hu
        rw [cell_of_row _ b _ cur _ (0, 0) hh] at this
        rw [Array.getElem?_setIfInBounds_ne (by rw [hsz]; omega)]
        exact this
      · rw [List.getElem?_append_right (by simpa using hj)] at hu
        have hj0 : j = xs.length := by
          have := (List.getElem?_eq_some_iff.1 hu).1
          simp at this; omega
        subst hj0
        simp at hu
        rw [hsz, Nat.mul_one, Array.getElem?_setIfInBounds_self_of_lt (by omega), hu]
    · refine ⟨rfl, rfl, rfl, by simp [World.setCells, World.setCell], fun k hk hne => ?_⟩
      rw [World.heap_setCells_other _ _ _ _ (by simp; omega) (fun e => hne (by rw [e]))]
      exact Below.heap_alloc w _ k hk
  · obtain ⟨v', w', hrun, hown, hg⟩ := run_append_arg_grows (P := Try.prog) (w.alloc (.cells #[.int .i64 y] 3)) 64 o.type 3 i _ 1 8 hu hi hz hsz hby hzs (by omega) ⟨b, of, none⟩ xs.length c (ints xs) (by rw [len_ints]; omega) (fun j u hu => by rw [Addr.add_lit]; exact hxs j u hu)
      ⟨w.heap.size, 0, none⟩ 1 1 [.int .i64 y] rfl hcell (by omega) (by unfold maxLen; omega) (by omega)
    unfold Oper.wp execOp
    simp only [hop, resolve, invoke, builtin, Sem.run_bind, Sem.run_pure, Result.andThen_ok, List.map_toArray, List.map_cons, List.map_nil, hs, hx, hrun]
    have hg2 : w.grownBy w' (some b) := ⟨hg.os, hg.tape, hg.output, Nat.le_trans (by simp) hg.size, fun k hk hne => (hg.block k (by simp; omega) (by simp)).trans (Below.heap_alloc w _ k hk)⟩
    rcases hown.2 with ⟨_, h0⟩ | ⟨k, cap, cur2, rfl, hbk, hh2, hn2, hc2, hs2, ht2⟩
    · omega
    · refine hK _ _ (h k _ _ ⟨0, cap, by simp, by simpa using hn2, hc2, ⟨cur2, hh2, by rw [hs2]; omega⟩, fun j u hu => ?_⟩ (.inr (by simp at hbk; omega)) hg2)
      rw [Nat.zero_add, cell_of_row _ k j cur2 _ (0, 0) hh2]
      have e2 : ints (xs ++ [y]) = ints xs ++ [.int .i64 y] := by simp [ints]
      rw [e2, ← ht2, List.getElem?_take] at hu
      split at hu
      · simpa using hu
      · cases hu
end
end Go.Proofs.Ytbafbnkmmpaomaa
