/- Small words on memory, for the walks: a slice value that reads as a list of cells; what a call leaves as it was. -/
import Derived.Test.YtbafbnkmmpaomaaRows
import Derived.WalkKit
import Derived.WalkSpells
import Derived.Deep.QuietTactic
import Derived.BigQuiet
import Derived.Below
import Derived.Laws.OwnMore
import Derived.Deep.Draws
namespace Go.Proofs.Ytbafbnkmmpaomaa
open Go.RowKit
set_option linter.unusedVariables false

theorem hid {p : Prop} (h : p) : Hid p := h
theorem ret_bool {a b : Bool} (h : a = b) : Ending.returned (.bool a) = .returned (.bool b) := by rw [h]
theorem ret_int {k : IntKind} {a b : Int} (h : a = b) : Ending.returned (.int k a) = .returned (.int k b) := by rw [h]

/-- The slice value v, n long, whose cells (sz to an element) read as xs, all of them in blocks below B. -/
def Sl (w : World) (B sz : Nat) (v : Value) (n : Nat) (xs : List Value) : Prop :=
  ∃ A c, v = .slice A n c ∧ n ≤ c ∧ c ≤ maxLen ∧ xs.length = n * sz ∧
    (0 < n → ∃ b o, A = some ⟨b, o, none⟩ ∧ b < B ∧ ∀ j u, xs[j]? = some u → w.cell? ⟨b, o + j, none⟩ = some u)

theorem Sl.none_ (w : World) (B sz : Nat) : Sl w B sz (.slice none 0 0) 0 [] :=
  ⟨none, 0, rfl, Nat.le_refl _, Nat.zero_le _, by simp, fun h => absurd h (by omega)⟩
theorem Sl.keep {w w' : World} {B sz n : Nat} {v : Value} {xs : List Value} (h : Sl w B sz v n xs) (hk : ∀ b o, b < B → w'.cell? ⟨b, o, none⟩ = w.cell? ⟨b, o, none⟩) : Sl w' B sz v n xs := by
  obtain ⟨A, c, hv, hn, hc, hl, hx⟩ := h
  refine ⟨A, c, hv, hn, hc, hl, fun h0 => ?_⟩
  obtain ⟨b, o, hA, hb, hcell⟩ := hx h0
  exact ⟨b, o, hA, hb, fun j u hu => (hk b _ hb).trans (hcell j u hu)⟩
theorem Sl.more {w : World} {B B' sz n : Nat} {v : Value} {xs : List Value} (h : Sl w B sz v n xs) (hB : B ≤ B') : Sl w B' sz v n xs := by
  obtain ⟨A, c, hv, hn, hc, hl, hx⟩ := h
  refine ⟨A, c, hv, hn, hc, hl, fun h0 => ?_⟩
  obtain ⟨b, o, hA, hb, hcell⟩ := hx h0
  exact ⟨b, o, hA, by omega, hcell⟩
theorem Sl.below {w w' : World} {B B' sz n : Nat} {v : Value} {xs : List Value} (h : Sl w B sz v n xs) (hb : Below B' w w') (hB : B ≤ B') : Sl w' B sz v n xs :=
  h.keep fun b o hlt => hb.cell (p := ⟨b, o, none⟩) (by show b < B'; omega)
theorem Sl.len {w : World} {B sz n : Nat} {v : Value} {xs : List Value} (h : Sl w B sz v n xs) : xs.length = n * sz := by
  obtain ⟨A, c, hv, hn, hc, hl, hx⟩ := h; exact hl
theorem Sl.max {w : World} {B sz n : Nat} {v : Value} {xs : List Value} (h : Sl w B sz v n xs) : n ≤ maxLen := by
  obtain ⟨A, c, hv, hn, hc, hl, hx⟩ := h; omega

/-- The cells of integers. -/
def ints (p : List Int) : List Value := p.map (Value.int .i64)
theorem len_ints (p : List Int) : (ints p).length = p.length := by simp [ints]
theorem ints_at (p : List Int) (k : Nat) (h : k < p.length) : (ints p)[k]? = some (.int .i64 (p.getD k 0)) := by simp [ints, h]

/-- Block k is a row of just these cells, none frozen. -/
def Blk (w : World) (k : Nat) (t : TypeId) (cs : List Value) : Prop := w.heap[k]? = some (.cells cs.toArray t (0, 0))
section
variable {w w' : World} {k : Nat} {t : TypeId} {cs : List Value}
theorem Blk.lt (h : Blk w k t cs) : k < w.heap.size := by
  rcases Nat.lt_or_ge k w.heap.size with hlt | hge
  · exact hlt
  · unfold Blk at h; rw [Array.getElem?_eq_none hge] at h; cases h
theorem Blk.cell (h : Blk w k t cs) (i : Nat) : w.cell? ⟨k, i, none⟩ = cs[i]? := by
  unfold Blk at h
  simp [World.cell?, h]
theorem Blk.frozen (h : Blk w k t cs) (i : Nat) : w.frozen? ⟨k, i, none⟩ = false := by
  unfold Blk at h
  simp [World.frozen?, h]
theorem Blk.new (w : World) (t : TypeId) (cs : List Value) : Blk (w.alloc (.cells cs.toArray t)) w.heap.size t cs := by
  unfold Blk World.alloc; simp
theorem Blk.alloc (h : Blk w k t cs) (o : Obj) : Blk (w.alloc o) k t cs := (Below.heap_alloc w o k h.lt).trans h
theorem Blk.put (h : Blk w k t cs) (i : Nat) (u : Value) : Blk (w.setCell ⟨k, i, none⟩ u) k t (cs.set i u) := by
  unfold Blk at h ⊢
  simp [World.setCell, Array.getElem?_modify, h]
theorem Blk.far (h : Blk w k t cs) {p : Addr} (hp : k ≠ p.block) (u : Value) : Blk (w.setCell p u) k t cs := (Below.heap_setCell w p u k hp).trans h
theorem Blk.below {B : Nat} (h : Blk w k t cs) (hb : Below B w w') (hk : k < B) : Blk w' k t cs := (hb.block k hk).trans h
theorem Blk.sl (h : Blk w k t cs) {B sz n c : Nat} (hB : k < B) (hn : n ≤ c) (hc : c ≤ maxLen) (hl : cs.length = n * sz) : Sl w B sz (.slice (some ⟨k, 0, none⟩) n c) n cs :=
  ⟨some ⟨k, 0, none⟩, c, rfl, hn, hc, hl, fun _ => ⟨k, 0, rfl, hB, fun j u hu => by rw [Nat.zero_add, h.cell, hu]⟩⟩
end
/-- But for block k (and new ones) w' is as w was. -/
def Only (k : Nat) (w w' : World) : Prop := w.grownBy w' (some k)
theorem Only.refl (k : Nat) (w : World) : Only k w w := World.grownBy.refl _ _
theorem Only.trans {k : Nat} {a b c : World} (h : Only k a b) (h' : Only k b c) : Only k a c :=
  ⟨h'.os.trans h.os, h'.tape.trans h.tape, h'.output.trans h.output, Nat.le_trans h.size h'.size, fun i hi hne => (h'.block i (Nat.lt_of_lt_of_le hi h.size) hne).trans (h.block i hi hne)⟩
theorem Only.put {k : Nat} {a w : World} (h : Only k a w) (i : Nat) (u : Value) : Only k a (w.setCell ⟨k, i, none⟩ u) :=
  h.trans ⟨rfl, rfl, rfl, by simp [World.setCell], fun j _ hne => Below.heap_setCell _ _ _ _ (fun e => hne (by rw [e]))⟩
theorem Only.below {k B : Nat} {a w : World} (h : Only k a w) (hB : B ≤ k) (hs : B ≤ a.heap.size) : Below B a w :=
  ⟨h.os, h.tape, h.output, h.size, fun i hi => h.block i (by omega) (fun e => by injection e with e; omega)⟩
theorem Sl.only {w w' : World} {B sz n k : Nat} {v : Value} {xs : List Value} (h : Sl w B sz v n xs) (ho : Only k w w') (hk : B ≤ k) (hs : B ≤ w.heap.size) : Sl w' B sz v n xs :=
  h.below (ho.below hk hs) (Nat.le_refl _)
theorem ints_set (p : List Int) (i : Nat) (x : Int) : (ints p).set i (.int .i64 x) = ints (p.set i x) := by simp [ints, List.map_set]

/-! ## Appends and makes -/
/-- Type t is a slice of e, whose zero value is z, of sz cells and by bytes. -/
def SlT (t e : TypeId) (z : Value) (sz by_ : Nat) : Prop :=
  Try.prog.underlying t = some (.slice e) ∧ (∃ i, Try.prog.info? e = some i ∧ i.zero = some z ∧ i.size = sz ∧ i.bytes = by_) ∧ z.cells.size = sz ∧ 0 < sz ∧ 0 < by_
theorem SlT.mk {t e : TypeId} {z : Value} {sz by_ : Nat} (h1 : Try.prog.underlying t = some (.slice e)) (h2 : (Try.prog.info? e).map (fun i => (i.zero, i.size, i.bytes)) = some (some z, sz, by_))
    (h3 : z.cells.size = sz) (h4 : 0 < sz) (h5 : 0 < by_) : SlT t e z sz by_ := ⟨h1, info_parts h2, h3, h4, h5⟩

theorem Sl.of_own {w : World} {base : Nat} {e : TypeId} {sz n : Nat} {v : Value} {xs : List Value} (h : w.ownsRow base e sz v n xs) : Sl w w.heap.size sz v n xs := by
  obtain ⟨hl, h⟩ := h
  rcases h with ⟨rfl, rfl⟩ | ⟨k, cap, cur, rfl, hb, hh, hn, hc, hs, ht⟩
  · exact ⟨none, 0, rfl, Nat.le_refl _, Nat.zero_le _, hl, fun h => absurd h (by omega)⟩
  · refine ⟨_, cap, rfl, hn, hc, hl, fun h0 => ⟨k, 0, rfl, (Array.getElem?_eq_some_iff.1 hh).1, fun j u hu => ?_⟩⟩
    rw [Nat.zero_add, cell_of_row w k j cur e (0, 0) hh]
    rw [← ht, List.getElem?_take] at hu
    split at hu
    · simpa using hu
    · cases hu
theorem own_below {w w' : World} {base : Nat} {e : TypeId} {sz n : Nat} {v : Value} {xs : List Value} (h : w.ownsRow base e sz v n xs) (hb : Below w.heap.size w w') : w'.ownsRow base e sz v n xs := by
  refine ⟨h.1, ?_⟩
  rcases h.2 with hn | ⟨k, cap, cur, rfl, hbk, hh, rest⟩
  · exact .inl hn
  · exact .inr ⟨k, cap, cur, rfl, hbk, (hb.block k (Array.getElem?_eq_some_iff.1 hh).1).trans hh, rest⟩
theorem own_more {w : World} {base base' : Nat} {e : TypeId} {sz n : Nat} {v : Value} {xs : List Value} (h : w.ownsRow base e sz v n xs) (hb : base' ≤ base) : w.ownsRow base' e sz v n xs := by
  refine ⟨h.1, ?_⟩
  rcases h.2 with hn | ⟨k, cap, cur, rfl, hbk, rest⟩
  · exact .inl hn
  · exact .inr ⟨k, cap, cur, rfl, by omega, rest⟩
theorem own_of_blk {w : World} {k base : Nat} {t : TypeId} {cs : List Value} {n sz : Nat} (h : Blk w k t cs) (hb : base ≤ k) (hn : n ≤ maxLen) (hl : cs.length = n * sz) : w.ownsRow base t sz (.slice (some ⟨k, 0, none⟩) n n) n cs :=
  ⟨hl, .inr ⟨k, n, cs.toArray, rfl, hb, h, Nat.le_refl _, hn, by simp [hl], by simp [← hl]⟩⟩
theorem grown_below {w w' : World} {base : Nat} {e : TypeId} {sz n : Nat} {v : Value} {xs : List Value} (h : w.ownsRow base e sz v n xs) (hg : w.grownBy w' v.ownBlock) (hb : base ≤ w.heap.size) : Below base w w' :=
  ⟨hg.os, hg.tape, hg.output, hg.size, fun k hk => hg.block k (by omega) (fun e => by have := (h.lt k e.symm).1; omega)⟩

section
variable {ops : Array Oper} {rest : List Oper} {o : Oper} {a : Act} {Q : Exit → Act → World → Prop} {w : World}
/-- out = append(out, src...): out is the call's own, src is whatever. -/
theorem wp_app {K : Act → World → Prop} (s x : Operand) {t e : TypeId} {z : Value} {sz by_ : Nat} (hT : SlT t e z sz by_) (hop : o.op = .call { callee := .builtin .append, args := #[s, x], argTypes := #[t, t] })
    {base : Nat} {v : Value} {n : Nat} {xs : List Value} (hs : a.eval s = v) (hown : w.ownsRow base e sz v n xs) {B : Nat} {src : Value} {m : Nat} {news : List Value} (hx : a.eval x = src) (hsl : Sl w B sz src m news)
    (h1 : ∀ u ∈ news, u.oneCell' = true) (hb : (n + m) * by_ ≤ 140737488355328) (hbase : base ≤ w.heap.size)
    (h : ∀ v' w', w'.ownsRow base e sz v' (n + m) (xs ++ news) → Below base w w' → K (a.put o.dst v') w') : o.wp Try.prog a w K Q := by
  obtain ⟨hu, ⟨i, hi, hz, hsz, hby⟩, hzs, h0, h0b⟩ := hT
  have h63 : n + m ≤ maxLen := by
    have : n + m ≤ (n + m) * by_ := Nat.le_mul_of_pos_right _ h0b
    unfold maxLen; omega
  obtain ⟨A, c, rfl, hmc, hcm, hl, hA⟩ := hsl
  by_cases hm : m = 0
  · subst hm
    have hn : news = [] := List.eq_nil_of_length_eq_zero (by simpa using hl)
    subst hn
    rcases A with _ | ad
    · have hrun : (Builtin.append_ #[t, t] o.type #[v, .slice none 0 c]).run Try.prog w = .ok v w := by
        rcases hown.2 with ⟨rfl, rfl⟩ | ⟨g, cap, cur, rfl, _, _, hnc, _⟩
        · simp [Builtin.append_, run_underlying hu, sizeOf, typeInfo, hi, Builtin.lenOf, Builtin.firstCells]
        · simp [Builtin.append_, run_underlying hu, sizeOf, typeInfo, hi, Builtin.lenOf, Builtin.firstCells, hnc, storeCells]
      unfold Oper.wp execOp
      simp only [hop, resolve, invoke, builtin, Sem.run_bind, Sem.run_pure, Result.andThen_ok, List.map_toArray, List.map_cons, List.map_nil, hs, hx, hrun]
      exact h v w (by simpa using hown) (Below.refl _ _)
    · exact wp_append_own w s x t hop base e i z sz by_ hu hi hz hsz hby hzs h0 v n xs hs hown ad 0 c [] hx (by simp) (fun j u hu => by simp at hu) (fun u hu => by simp at hu) h63 hb hbase
        (fun v' w' h2 h3 _ => h v' w' h2 (grown_below hown h3 hbase))
  · obtain ⟨b, of, rfl, hbB, hc⟩ := hA (by omega)
    exact wp_append_own w s x t hop base e i z sz by_ hu hi hz hsz hby hzs h0 v n xs hs hown ⟨b, of, none⟩ m c news hx hl (fun j u hu => by rw [Addr.add_lit]; exact hc j u hu) h1 h63 hb hbase
      (fun v' w' h2 h3 _ => h v' w' h2 (grown_below hown h3 hbase))
theorem wl_app (hw : Region.wanted o (yielded ops a.tmps) = true) (s x : Operand) {t e : TypeId} {z : Value} {sz by_ : Nat} (hT : SlT t e z sz by_) (hop : o.op = .call { callee := .builtin .append, args := #[s, x], argTypes := #[t, t] })
    {base : Nat} {v : Value} {n : Nat} {xs : List Value} (hs : a.eval s = v) (hown : w.ownsRow base e sz v n xs) {B : Nat} {src : Value} {m : Nat} {news : List Value} (hx : a.eval x = src) (hsl : Sl w B sz src m news)
    (h1 : ∀ u ∈ news, u.oneCell' = true) (hb : (n + m) * by_ ≤ 140737488355328) (hbase : base ≤ w.heap.size)
    (h : ∀ v' w', w'.ownsRow base e sz v' (n + m) (xs ++ news) → Below base w w' → wpList Try.prog ops Q rest (a.put o.dst v') w') : wpList Try.prog ops Q (o :: rest) a w :=
  BigFrame.wpList_want hw fun _ hK => wp_app s x hT hop hs hown hx hsl h1 hb hbase fun v' w' h2 h3 => hK _ _ (h v' w' h2 h3)
/-- out = append(out, x): the things stand in a new block. -/
theorem wl_app1 (hw : Region.wanted o (yielded ops a.tmps) = true) (s x : Operand) {t e : TypeId} {z : Value} {sz by_ : Nat} (hT : SlT t e z sz by_) (hop : o.op = .call { callee := .builtin .append, args := #[s, x], argTypes := #[t, t] })
    {base : Nat} {v : Value} {n : Nat} {xs : List Value} {news : List Value} {e' : TypeId} (hs : a.eval s = v) (hown : w.ownsRow base e sz v n xs) (hx : a.eval x = .slice (some ⟨w.heap.size, 0, none⟩) 1 1)
    (hl : news.length = sz) (h1 : ∀ u ∈ news, u.oneCell' = true) (hb : (n + 1) * by_ ≤ 140737488355328) (hbase : base ≤ w.heap.size)
    (h : ∀ v' w', w'.ownsRow base e sz v' (n + 1) (xs ++ news) → Below base w w' → wpList Try.prog ops Q rest (a.put o.dst v') w') : wpList Try.prog ops Q (o :: rest) a (w.alloc (.cells news.toArray e')) := by
  refine wl_app hw s x hT hop hs (hown.alloc _) hx ((Blk.new w e' news).sl (B := w.heap.size + 1) (Nat.lt_succ_self _) (Nat.le_refl _) (by unfold maxLen; omega) (by simpa using hl)) h1 hb (by simp; omega) ?_
  intro v' w' h2 h3
  exact h v' w' h2 (((Below.refl _ _).alloc hbase _).trans h3)
end
theorem ints_one (zs : List Int) : ∀ u ∈ ints zs, u.oneCell' = true := by
  intro u hu
  obtain ⟨_, _, rfl⟩ := List.mem_map.1 hu
  rfl
theorem ints_app (p q : List Int) : ints p ++ ints q = ints (p ++ q) := by simp [ints]
/-- []int -/
theorem Tints : SlT 64 3 (.int .i64 0) 1 8 := SlT.mk Try.underlying64 (by kernel_rfl) rfl (by decide) (by decide)
/-- make([]int, n) -/
theorem run_make_ints (n : Nat) (h : n ≤ 17592186044416) (w : World) :
    (Instr.makeSlice 64 (.int .i64 (n : Int)) (.int .i64 (n : Int))).run Try.prog w = .ok (.slice (some ⟨w.heap.size, 0, none⟩) n n) (w.alloc (.cells (ints (List.replicate n 0)).toArray 3)) := by
  obtain ⟨hu, ⟨i, hi, hz, hsz, hby⟩, hzs, h0, h0b⟩ := Tints
  have hr := run_make (P := Try.prog) w 64 3 i (.int .i64 0) hu hi hz .i64 .i64 n n (by omega) (by omega) (by rw [hby]; omega) (by omega)
  rw [hr, hsz]
  have e : madeCells (Value.int IntKind.i64 0).cells ((n : Int).toNat * 1) = (ints (List.replicate n 0)).toArray := by
    have := toList_madeCells_one (.int .i64 0) n
    simp only [Int.toNat_natCast, Nat.mul_one, ints, List.map_replicate]
    rw [← this]
    rfl
  rw [e]
  simp

/-! ## What only draws -/
/-- w' is w, but that it may have drawn. -/
def Qt (w w' : World) : Prop := ∃ j, w' = w.drewN j
theorem Qt.refl (w : World) : Qt w w := ⟨0, rfl⟩
theorem Qt.drewN {w w' : World} (h : Qt w w') (j : Nat) : Qt w (w'.drewN j) := by
  obtain ⟨i, rfl⟩ := h
  exact ⟨i + j, by rw [World.drewN_drewN]⟩
theorem Qt.trans {a b c : World} (h : Qt a b) (h' : Qt b c) : Qt a c := by
  obtain ⟨j, rfl⟩ := h'
  exact h.drewN j
theorem Qt.cell {w w' : World} (h : Qt w w') (a : Addr) : w'.cell? a = w.cell? a := by obtain ⟨j, rfl⟩ := h; rfl
theorem Qt.frozen {w w' : World} (h : Qt w w') (a : Addr) : w'.frozen? a = w.frozen? a := by obtain ⟨j, rfl⟩ := h; rfl
theorem Qt.size {w w' : World} (h : Qt w w') : w'.heap.size = w.heap.size := by obtain ⟨j, rfl⟩ := h; rfl
theorem Qt.below {w w' : World} (h : Qt w w') (B : Nat) : Below B w w' := by
  obtain ⟨j, rfl⟩ := h
  exact ⟨rfl, rfl, rfl, Nat.le_refl _, fun _ _ => rfl⟩
theorem Sl.qt {w w' : World} {B sz n : Nat} {v : Value} {xs : List Value} (h : Sl w B sz v n xs) (hq : Qt w w') : Sl w' B sz v n xs := h.keep fun b o _ => hq.cell _
theorem quiet_qt {f : FuncId} {args : Array Value} {w : World} {n : Nat} {v : Value} (h : Calls Try.prog f args (w.drewN n) fun e w' => e = .returned v ∧ Qt (w.drewN n) w') :
    Calls Try.prog f args (w.drewN n) fun e w'' => e = .returned v ∧ ∃ m, w'' = w.drewN m :=
  h.mono fun _ _ ⟨he, m, hm⟩ => ⟨he, n + m, by rw [hm, World.drewN_drewN]⟩
theorem quiet_eq {f : FuncId} {args : Array Value} {w : World} {n : Nat} {v : Value} (h : Calls Try.prog f args (w.drewN n) fun e w' => e = .returned v ∧ w.drewN n = w') :
    Calls Try.prog f args (w.drewN n) fun e w'' => e = .returned v ∧ ∃ m, w'' = w.drewN m :=
  h.mono fun _ _ ⟨he, hm⟩ => ⟨he, n, hm.symm⟩
/-- The cell at place k of a slice of integers. -/
theorem ints_cell {w : World} {b o : Nat} {p : List Int} (h : ∀ j u, (ints p)[j]? = some u → w.cell? ⟨b, o + j, none⟩ = some u) {k : Nat} (hk : k < p.length) : w.cell? ⟨b, o + k, none⟩ = some (.int .i64 (p.getD k 0)) :=
  h k _ (ints_at p k hk)

theorem Sl.alloc {w : World} {B sz n : Nat} {v : Value} {xs : List Value} (h : Sl w B sz v n xs) (hB : B ≤ w.heap.size) (o : Obj) : Sl (w.alloc o) B sz v n xs :=
  h.below ((Below.refl _ _).alloc hB o) (Nat.le_refl _)
theorem own_empty (w : World) (e : TypeId) (sz base : Nat) (hb : base ≤ w.heap.size) : (w.alloc (.cells #[] e)).ownsRow base e sz (.slice (some ⟨w.heap.size, 0, none⟩) 0 0) 0 [] :=
  World.ownsRow_made w #[] 0 hb (by unfold maxLen; omega) (by simp)

theorem own_form {w : World} {base : Nat} {e : TypeId} {sz n : Nat} {v : Value} {xs : List Value} (h : w.ownsRow base e sz v n xs) (hn : 0 < n) :
    ∃ k cap, v = .slice (some ⟨k, 0, none⟩) n cap ∧ base ≤ k ∧ k < w.heap.size := by
  rcases h.2 with ⟨_, h0⟩ | ⟨k, cap, cur, hv, hb, hh, _⟩
  · omega
  · exact ⟨k, cap, hv, hb, (Array.getElem?_eq_some_iff.1 hh).1⟩

/-- The cells of edges. -/
def eds (l : List (Int × Int × Int)) : List Value := l.flatMap fun e => [.int .i64 e.1, .int .i64 e.2.1, .int .i64 e.2.2]
theorem len_eds (l : List (Int × Int × Int)) : (eds l).length = l.length * 3 := by
  induction l with
  | nil => rfl
  | cons e l ih => simp [eds] at ih ⊢; omega
theorem eds_app (p q : List (Int × Int × Int)) : eds p ++ eds q = eds (p ++ q) := by simp [eds]
theorem eds_at (l : List (Int × Int × Int)) (k : Nat) (h : k < l.length) :
    (eds l)[k * 3]? = some (.int .i64 l[k].1) ∧ (eds l)[k * 3 + 1]? = some (.int .i64 l[k].2.1) ∧ (eds l)[k * 3 + 2]? = some (.int .i64 l[k].2.2) := by
  induction l generalizing k with
  | nil => simp at h
  | cons e l ih =>
    cases k with
    | zero => simp [eds]
    | succ k =>
      have := ih k (by simpa using h)
      simp only [eds, List.flatMap_cons, List.getElem_cons_succ] at this ⊢
      refine ⟨?_, ?_, ?_⟩
      · rw [show (k + 1) * 3 = k * 3 + 3 by omega, List.getElem?_append_right (by simp)]; simpa using this.1
      · rw [show (k + 1) * 3 + 1 = k * 3 + 1 + 3 by omega, List.getElem?_append_right (by simp)]; simpa using this.2.1
      · rw [show (k + 1) * 3 + 2 = k * 3 + 2 + 3 by omega, List.getElem?_append_right (by simp)]; simpa using this.2.2
theorem eds_cell {w : World} {b o : Nat} {l : List (Int × Int × Int)} (h : ∀ j u, (eds l)[j]? = some u → w.cell? ⟨b, o + j, none⟩ = some u) {k : Nat} (hk : k < l.length) :
    w.cell? ⟨b, o + k * 3, none⟩ = some (.int .i64 l[k].1) ∧ w.cell? ⟨b, o + k * 3 + 1, none⟩ = some (.int .i64 l[k].2.1) ∧ w.cell? ⟨b, o + k * 3 + 2, none⟩ = some (.int .i64 l[k].2.2) := by
  have e := eds_at l k hk
  exact ⟨h _ _ e.1, by rw [Nat.add_assoc]; exact h _ _ e.2.1, by rw [Nat.add_assoc]; exact h _ _ e.2.2⟩
theorem eds_one (l : List (Int × Int × Int)) : ∀ u ∈ eds l, u.oneCell' = true := by
  intro u hu
  obtain ⟨e, _, h⟩ := List.mem_flatMap.1 hu
  simp at h
  rcases h with rfl | rfl | rfl <;> rfl

/-! ## Steps of a law: nothing that was there has turned -/
theorem Bl.call {w a b : World} (h : Below w.heap.size w a) (h' : Below a.heap.size a b) : Below w.heap.size w b := h.trans (h'.mono h.size)
theorem Bl.qt {w a b : World} (h : Below w.heap.size w a) (h' : Qt a b) : Below w.heap.size w b := h.trans (h'.below _)
theorem Bl.new {w a : World} (h : Below w.heap.size w a) (o : Obj) : Below w.heap.size w (a.alloc o) := h.alloc h.size o
theorem Sl.top {w : World} {B sz n : Nat} {v : Value} {xs : List Value} (h : Sl w B sz v n xs) (hB : B ≤ w.heap.size) : Sl w w.heap.size sz v n xs := h.more hB
theorem Sl.call {w a : World} {sz n : Nat} {v : Value} {xs : List Value} (h : Sl w w.heap.size sz v n xs) (hb : Below w.heap.size w a) : Sl a a.heap.size sz v n xs := (h.below hb (Nat.le_refl _)).more hb.size
theorem Sl.cqt {w a : World} {sz n : Nat} {v : Value} {xs : List Value} (h : Sl w w.heap.size sz v n xs) (hb : Qt w a) : Sl a a.heap.size sz v n xs := h.call (hb.below _)
theorem Sl.new {w : World} {sz n : Nat} {v : Value} {xs : List Value} (h : Sl w w.heap.size sz v n xs) (o : Obj) : Sl (w.alloc o) (w.alloc o).heap.size sz v n xs := h.call ((Below.refl _ _).alloc (Nat.le_refl _) o)
theorem Qt.bel {a b : World} (h : Qt a b) : Below a.heap.size a b := h.below _
theorem bel_new (a : World) (o : Obj) : Below a.heap.size a (a.alloc o) := (Below.refl _ _).alloc (Nat.le_refl _) o
/-- A literal of integers, in its new block. -/
theorem lit_ints (w : World) (e : TypeId) (l : List Int) (h : l.length ≤ 1000) : Sl (w.alloc (.cells (ints l).toArray e)) (w.alloc (.cells (ints l).toArray e)).heap.size 1 (.slice (some ⟨w.heap.size, 0, none⟩) l.length l.length) l.length (ints l) :=
  (Blk.new w e (ints l)).sl (by simp) (Nat.le_refl _) (by unfold maxLen; omega) (by rw [len_ints]; omega)
theorem lit_eds (w : World) (e : TypeId) (l : List (Int × Int × Int)) (h : l.length ≤ 1000) : Sl (w.alloc (.cells (eds l).toArray e)) (w.alloc (.cells (eds l).toArray e)).heap.size 3 (.slice (some ⟨w.heap.size, 0, none⟩) l.length l.length) l.length (eds l) :=
  (Blk.new w e (eds l)).sl (by simp) (Nat.le_refl _) (by unfold maxLen; omega) (by rw [len_eds])
/-- What a law answers: true, and nothing that was there has turned. -/
def IsTrue (w : World) (e : Ending) (w' : World) : Prop := e = .returned (.bool true) ∧ Below w.heap.size w w'
end Go.Proofs.Ytbafbnkmmpaomaa
