/- The texts Base, RowKit, MgA, merged. No theorem here is a claim by itself. -/
import Derived.Test.YtahodfikhocobaaGreatDoorRows
import Derived.WalkKit
import Derived.WalkSpells
import Derived.Deep.QuietTactic
import Derived.BigQuiet
import Derived.Below
import Derived.Laws.OwnMore
import Derived.Deep.Draws
import Derived.ProofKit
import Derived.OpenShut
import Derived.ShutString
import Derived.ChangeOld
import Derived.Deep.Slices
import Derived.Lib.SmallJoins
namespace Go.Proofs.YtahodfikhocobaaGreatDoor
open Go.RowKit
set_option linter.unusedVariables false
theorem hid {p : Prop} (h : p) : Hid p := h
theorem ret_bool {a b : Bool} (h : a = b) : Ending.returned (.bool a) = .returned (.bool b) := by rw [h]
theorem ret_int {k : IntKind} {a b : Int} (h : a = b) : Ending.returned (.int k a) = .returned (.int k b) := by rw [h]
def Sl (w : World) (B sz : Nat) (v : Value) (n : Nat) (xs : List Value) : Prop :=
 ∃ A c, v = .slice A n c ∧ n ≤ c ∧ c ≤ maxLen ∧ xs.length = n * sz ∧
  (0 < n → ∃ b o, A = some ⟨b, o, none⟩ ∧ b < B ∧ ∀ j u, xs[j]? = some u → w.cell? ⟨b, o + j, none⟩ = some u)
theorem Sl.none_ (w : World) (B sz : Nat) : Sl w B sz (.slice none 0 0) 0 [] :=
 ⟨none, 0, rfl, Nat.le_refl _, Nat.zero_le _, by simp, fun h => absurd h (by omega)⟩
theorem Sl.keep {w w' : World} {B sz n : Nat} {v : Value} {xs : List Value} (h : Sl w B sz v n xs) (hk : ∀ b o, b < B → w'.cell? ⟨b, o, none⟩ = w.cell? ⟨b, o, none⟩) : Sl w' B sz v n xs := by
 obtain ⟨A, c, hv, hn, hc, hl, hx⟩ := h
 refine ⟨A, c, hv, hn, hc, hl, fun h0 => ?_⟩
 obtain ⟨b, o, hA, hb, hcell⟩ := hx h0
 exact ⟨b, o, hA, hb, fun j u hu => (hk b _ hb).trans (hcell j u hu)⟩
theorem Sl.more {w : World} {B B' sz n : Nat} {v : Value} {xs : List Value} (h : Sl w B sz v n xs) (hB : B ≤ B') : Sl w B' sz v n xs := by
 obtain ⟨A, c, hv, hn, hc, hl, hx⟩ := h
 refine ⟨A, c, hv, hn, hc, hl, fun h0 => ?_⟩
 obtain ⟨b, o, hA, hb, hcell⟩ := hx h0
 exact ⟨b, o, hA, by omega, hcell⟩
theorem Sl.below {w w' : World} {B B' sz n : Nat} {v : Value} {xs : List Value} (h : Sl w B sz v n xs) (hb : Below B' w w') (hB : B ≤ B') : Sl w' B sz v n xs :=
 h.keep fun b o hlt => hb.cell (p := ⟨b, o, none⟩) (by show b < B'; omega)
theorem Sl.len {w : World} {B sz n : Nat} {v : Value} {xs : List Value} (h : Sl w B sz v n xs) : xs.length = n * sz := by
 obtain ⟨A, c, hv, hn, hc, hl, hx⟩ := h; exact hl
theorem Sl.max {w : World} {B sz n : Nat} {v : Value} {xs : List Value} (h : Sl w B sz v n xs) : n ≤ maxLen := by
 obtain ⟨A, c, hv, hn, hc, hl, hx⟩ := h; omega
def ints (p : List Int) : List Value := p.map (Value.int .i64)
theorem len_ints (p : List Int) : (ints p).length = p.length := by simp [ints]
theorem ints_at (p : List Int) (k : Nat) (h : k < p.length) : (ints p)[k]? = some (.int .i64 (p.getD k 0)) := by simp [ints, h]
def Blk (w : World) (k : Nat) (t : TypeId) (cs : List Value) : Prop := w.heap[k]? = some (.cells cs.toArray t (0, 0))
section
variable {w w' : World} {k : Nat} {t : TypeId} {cs : List Value}
theorem Blk.lt (h : Blk w k t cs) : k < w.heap.size := by
 rcases Nat.lt_or_ge k w.heap.size with hlt | hge
 · exact hlt
 · unfold Blk at h; rw [Array.getElem?_eq_none hge] at h; cases h
theorem Blk.cell (h : Blk w k t cs) (i : Nat) : w.cell? ⟨k, i, none⟩ = cs[i]? := by
 unfold Blk at h
 simp [World.cell?, h]
theorem Blk.frozen (h : Blk w k t cs) (i : Nat) : w.frozen? ⟨k, i, none⟩ = false := by
 unfold Blk at h
 simp [World.frozen?, h]
theorem Blk.new (w : World) (t : TypeId) (cs : List Value) : Blk (w.alloc (.cells cs.toArray t)) w.heap.size t cs := by
 unfold Blk World.alloc; simp
theorem Blk.alloc (h : Blk w k t cs) (o : Obj) : Blk (w.alloc o) k t cs := (Below.heap_alloc w o k h.lt).trans h
theorem Blk.put (h : Blk w k t cs) (i : Nat) (u : Value) : Blk (w.setCell ⟨k, i, none⟩ u) k t (cs.set i u) := by
 unfold Blk at h ⊢
 simp [World.setCell, Array.getElem?_modify, h]
theorem Blk.far (h : Blk w k t cs) {p : Addr} (hp : k ≠ p.block) (u : Value) : Blk (w.setCell p u) k t cs := (Below.heap_setCell w p u k hp).trans h
theorem Blk.below {B : Nat} (h : Blk w k t cs) (hb : Below B w w') (hk : k < B) : Blk w' k t cs := (hb.block k hk).trans h
theorem Blk.sl (h : Blk w k t cs) {B sz n c : Nat} (hB : k < B) (hn : n ≤ c) (hc : c ≤ maxLen) (hl : cs.length = n * sz) : Sl w B sz (.slice (some ⟨k, 0, none⟩) n c) n cs :=
 ⟨some ⟨k, 0, none⟩, c, rfl, hn, hc, hl, fun _ => ⟨k, 0, rfl, hB, fun j u hu => by rw [Nat.zero_add, h.cell, hu]⟩⟩
end
def Only (k : Nat) (w w' : World) : Prop := w.grownBy w' (some k)
theorem Only.refl (k : Nat) (w : World) : Only k w w := World.grownBy.refl _ _
theorem Only.trans {k : Nat} {a b c : World} (h : Only k a b) (h' : Only k b c) : Only k a c :=
 ⟨h'.os.trans h.os, h'.tape.trans h.tape, h'.output.trans h.output, Nat.le_trans h.size h'.size, fun i hi hne => (h'.block i (Nat.lt_of_lt_of_le hi h.size) hne).trans (h.block i hi hne)⟩
theorem Only.put {k : Nat} {a w : World} (h : Only k a w) (i : Nat) (u : Value) : Only k a (w.setCell ⟨k, i, none⟩ u) :=
 h.trans ⟨rfl, rfl, rfl, by simp [World.setCell], fun j _ hne => Below.heap_setCell _ _ _ _ (fun e => hne (by rw [e]))⟩
theorem Only.below {k B : Nat} {a w : World} (h : Only k a w) (hB : B ≤ k) (hs : B ≤ a.heap.size) : Below B a w :=
 ⟨h.os, h.tape, h.output, h.size, fun i hi => h.block i (by omega) (fun e => by injection e with e; omega)⟩
theorem Sl.only {w w' : World} {B sz n k : Nat} {v : Value} {xs : List Value} (h : Sl w B sz v n xs) (ho : Only k w w') (hk : B ≤ k) (hs : B ≤ w.heap.size) : Sl w' B sz v n xs :=
 h.below (ho.below hk hs) (Nat.le_refl _)
theorem ints_set (p : List Int) (i : Nat) (x : Int) : (ints p).set i (.int .i64 x) = ints (p.set i x) := by simp [ints, List.map_set]
/-! ## Appends and makes -/
def SlT (t e : TypeId) (z : Value) (sz by_ : Nat) : Prop :=
 Tryz.prog.underlying t = some (.slice e) ∧ (∃ i, Tryz.prog.info? e = some i ∧ i.zero = some z ∧ i.size = sz ∧ i.bytes = by_) ∧ z.cells.size = sz ∧ 0 < sz ∧ 0 < by_
theorem SlT.mk {t e : TypeId} {z : Value} {sz by_ : Nat} (h1 : Tryz.prog.underlying t = some (.slice e)) (h2 : (Tryz.prog.info? e).map (fun i => (i.zero, i.size, i.bytes)) = some (some z, sz, by_))
  (h3 : z.cells.size = sz) (h4 : 0 < sz) (h5 : 0 < by_) : SlT t e z sz by_ := ⟨h1, info_parts h2, h3, h4, h5⟩
theorem Sl.of_own {w : World} {base : Nat} {e : TypeId} {sz n : Nat} {v : Value} {xs : List Value} (h : w.ownsRow base e sz v n xs) : Sl w w.heap.size sz v n xs := by
 obtain ⟨hl, h⟩ := h
 rcases h with ⟨rfl, rfl⟩ | ⟨k, cap, cur, rfl, hb, hh, hn, hc, hs, ht⟩
 · exact ⟨none, 0, rfl, Nat.le_refl _, Nat.zero_le _, hl, fun h => absurd h (by omega)⟩
 ·
  refine ⟨_, cap, rfl, hn, hc, hl, fun h0 => ⟨k, 0, rfl, (Array.getElem?_eq_some_iff.1 hh).1, fun j u hu => ?_⟩⟩
  rw [Nat.zero_add, cell_of_row w k j cur e (0, 0) hh]
  rw [← ht, List.getElem?_take] at hu
  split at hu
  · simpa using hu
  · cases hu
theorem own_below {w w' : World} {base : Nat} {e : TypeId} {sz n : Nat} {v : Value} {xs : List Value} (h : w.ownsRow base e sz v n xs) (hb : Below w.heap.size w w') : w'.ownsRow base e sz v n xs := by
 refine ⟨h.1, ?_⟩
 rcases h.2 with hn | ⟨k, cap, cur, rfl, hbk, hh, rest⟩
 · exact .inl hn
 · exact .inr ⟨k, cap, cur, rfl, hbk, (hb.block k (Array.getElem?_eq_some_iff.1 hh).1).trans hh, rest⟩
theorem own_more {w : World} {base base' : Nat} {e : TypeId} {sz n : Nat} {v : Value} {xs : List Value} (h : w.ownsRow base e sz v n xs) (hb : base' ≤ base) : w.ownsRow base' e sz v n xs := by
 refine ⟨h.1, ?_⟩
 rcases h.2 with hn | ⟨k, cap, cur, rfl, hbk, rest⟩
 · exact .inl hn
 · exact .inr ⟨k, cap, cur, rfl, by omega, rest⟩
theorem own_of_blk {w : World} {k base : Nat} {t : TypeId} {cs : List Value} {n sz : Nat} (h : Blk w k t cs) (hb : base ≤ k) (hn : n ≤ maxLen) (hl : cs.length = n * sz) : w.ownsRow base t sz (.slice (some ⟨k, 0, none⟩) n n) n cs :=
 ⟨hl, .inr ⟨k, n, cs.toArray, rfl, hb, h, Nat.le_refl _, hn, by simp [hl], by simp [← hl]⟩⟩
theorem grown_below {w w' : World} {base : Nat} {e : TypeId} {sz n : Nat} {v : Value} {xs : List Value} (h : w.ownsRow base e sz v n xs) (hg : w.grownBy w' v.ownBlock) (hb : base ≤ w.heap.size) : Below base w w' :=
 ⟨hg.os, hg.tape, hg.output, hg.size, fun k hk => hg.block k (by omega) (fun e => by have := (h.lt k e.symm).1; omega)⟩
section
variable {ops : Array Oper} {rest : List Oper} {o : Oper} {a : Act} {Q : Exit → Act → World → Prop} {w : World}
theorem wp_app {K : Act → World → Prop} (s x : Operand) {t e : TypeId} {z : Value} {sz by_ : Nat} (hT : SlT t e z sz by_) (hop : o.op = .call { callee := .builtin .append, args := #[s, x], argTypes := #[t, t] })
  {base : Nat} {v : Value} {n : Nat} {xs : List Value} (hs : a.eval s = v) (hown : w.ownsRow base e sz v n xs) {B : Nat} {src : Value} {m : Nat} {news : List Value} (hx : a.eval x = src) (hsl : Sl w B sz src m news)
  (h1 : ∀ u ∈ news, u.oneCell' = true) (hb : (n + m) * by_ ≤ 140737488355328) (hbase : base ≤ w.heap.size)
  (h : ∀ v' w', w'.ownsRow base e sz v' (n + m) (xs ++ news) → Below base w w' → K (a.put o.dst v') w') : o.wp Tryz.prog a w K Q := by
 obtain ⟨hu, ⟨i, hi, hz, hsz, hby⟩, hzs, h0, h0b⟩ := hT
 have h63 : n + m ≤ maxLen := by
  have : n + m ≤ (n + m) * by_ := Nat.le_mul_of_pos_right _ h0b
  unfold maxLen; omega
 obtain ⟨A, c, rfl, hmc, hcm, hl, hA⟩ := hsl
 by_cases hm : m = 0
 ·
  subst hm
  have hn : news = [] := List.eq_nil_of_length_eq_zero (by simpa using hl)
  subst hn
  rcases A with _ | ad
  ·
   have hrun : (Builtin.append_ #[t, t] o.type #[v, .slice none 0 c]).run Tryz.prog w = .ok v w := by
    rcases hown.2 with ⟨rfl, rfl⟩ | ⟨g, cap, cur, rfl, _, _, hnc, _⟩
    · simp [Builtin.append_, run_underlying hu, sizeOf, typeInfo, hi, Builtin.lenOf, Builtin.firstCells]
    · simp [Builtin.append_, run_underlying hu, sizeOf, typeInfo, hi, Builtin.lenOf, Builtin.firstCells, hnc, storeCells]
   unfold Oper.wp execOp
   simp only [hop, resolve, invoke, builtin, Sem.run_bind, Sem.run_pure, Result.andThen_ok, List.map_toArray, List.map_cons, List.map_nil, hs, hx, hrun]
   exact h v w (by simpa using hown) (Below.refl _ _)
  ·
   exact wp_append_own w s x t hop base e i z sz by_ hu hi hz hsz hby hzs h0 v n xs hs hown ad 0 c [] hx (by simp) (fun j u hu => by simp at hu) (fun u hu => by simp at hu) h63 hb hbase
    (fun v' w' h2 h3 _ => h v' w' h2 (grown_below hown h3 hbase))
 ·
  obtain ⟨b, of, rfl, hbB, hc⟩ := hA (by omega)
  exact wp_append_own w s x t hop base e i z sz by_ hu hi hz hsz hby hzs h0 v n xs hs hown ⟨b, of, none⟩ m c news hx hl (fun j u hu => by rw [Addr.add_lit]; exact hc j u hu) h1 h63 hb hbase
   (fun v' w' h2 h3 _ => h v' w' h2 (grown_below hown h3 hbase))
theorem wl_app (hw : Region.wanted o (yielded ops a.tmps) = true) (s x : Operand) {t e : TypeId} {z : Value} {sz by_ : Nat} (hT : SlT t e z sz by_) (hop : o.op = .call { callee := .builtin .append, args := #[s, x], argTypes := #[t, t] })
  {base : Nat} {v : Value} {n : Nat} {xs : List Value} (hs : a.eval s = v) (hown : w.ownsRow base e sz v n xs) {B : Nat} {src : Value} {m : Nat} {news : List Value} (hx : a.eval x = src) (hsl : Sl w B sz src m news)
  (h1 : ∀ u ∈ news, u.oneCell' = true) (hb : (n + m) * by_ ≤ 140737488355328) (hbase : base ≤ w.heap.size)
  (h : ∀ v' w', w'.ownsRow base e sz v' (n + m) (xs ++ news) → Below base w w' → wpList Tryz.prog ops Q rest (a.put o.dst v') w') : wpList Tryz.prog ops Q (o :: rest) a w :=
 BigFrame.wpList_want hw fun _ hK => wp_app s x hT hop hs hown hx hsl h1 hb hbase fun v' w' h2 h3 => hK _ _ (h v' w' h2 h3)
theorem wl_app1 (hw : Region.wanted o (yielded ops a.tmps) = true) (s x : Operand) {t e : TypeId} {z : Value} {sz by_ : Nat} (hT : SlT t e z sz by_) (hop : o.op = .call { callee := .builtin .append, args := #[s, x], argTypes := #[t, t] })
  {base : Nat} {v : Value} {n : Nat} {xs : List Value} {news : List Value} {e' : TypeId} (hs : a.eval s = v) (hown : w.ownsRow base e sz v n xs) (hx : a.eval x = .slice (some ⟨w.heap.size, 0, none⟩) 1 1)
  (hl : news.length = sz) (h1 : ∀ u ∈ news, u.oneCell' = true) (hb : (n + 1) * by_ ≤ 140737488355328) (hbase : base ≤ w.heap.size)
  (h : ∀ v' w', w'.ownsRow base e sz v' (n + 1) (xs ++ news) → Below base w w' → wpList Tryz.prog ops Q rest (a.put o.dst v') w') : wpList Tryz.prog ops Q (o :: rest) a (w.alloc (.cells news.toArray e')) := by
 refine wl_app hw s x hT hop hs (hown.alloc _) hx ((Blk.new w e' news).sl (B := w.heap.size + 1) (Nat.lt_succ_self _) (Nat.le_refl _) (by unfold maxLen; omega) (by simpa using hl)) h1 hb (by simp; omega) ?_
 intro v' w' h2 h3
 exact h v' w' h2 (((Below.refl _ _).alloc hbase _).trans h3)
end
theorem ints_one (zs : List Int) : ∀ u ∈ ints zs, u.oneCell' = true := by
 intro u hu
 obtain ⟨_, _, rfl⟩ := List.mem_map.1 hu
 rfl
theorem ints_app (p q : List Int) : ints p ++ ints q = ints (p ++ q) := by simp [ints]
theorem Tints : SlT 32 3 (.int .i64 0) 1 8 := SlT.mk Tryz.underlying32 (by kernel_rfl) rfl (by decide) (by decide)
theorem run_make_ints (n : Nat) (h : n ≤ 17592186044416) (w : World) :
  (Instr.makeSlice 32 (.int .i64 (n : Int)) (.int .i64 (n : Int))).run Tryz.prog w = .ok (.slice (some ⟨w.heap.size, 0, none⟩) n n) (w.alloc (.cells (ints (List.replicate n 0)).toArray 3)) := by
 obtain ⟨hu, ⟨i, hi, hz, hsz, hby⟩, hzs, h0, h0b⟩ := Tints
 have hr := run_make (P := Tryz.prog) w 32 3 i (.int .i64 0) hu hi hz .i64 .i64 n n (by omega) (by omega) (by rw [hby]; omega) (by omega)
 rw [hr, hsz]
 have e : madeCells (Value.int IntKind.i64 0).cells ((n : Int).toNat * 1) = (ints (List.replicate n 0)).toArray := by
  have := toList_madeCells_one (.int .i64 0) n
  simp only [Int.toNat_natCast, Nat.mul_one, ints, List.map_replicate]
  rw [← this]
  rfl
 rw [e]
 simp
/-! ## What only draws -/
def Qt (w w' : World) : Prop := ∃ j, w' = w.drewN j
theorem Qt.refl (w : World) : Qt w w := ⟨0, rfl⟩
theorem Qt.drewN {w w' : World} (h : Qt w w') (j : Nat) : Qt w (w'.drewN j) := by
 obtain ⟨i, rfl⟩ := h
 exact ⟨i + j, by rw [World.drewN_drewN]⟩
theorem qt_of (w : World) (n : Nat) : Qt w (w.drewN n) := ⟨n, rfl⟩
theorem qt_drew (w : World) : Qt w w.drew := ⟨1, rfl⟩
theorem Qt.cell {w w' : World} (h : Qt w w') (a : Addr) : w'.cell? a = w.cell? a := by obtain ⟨j, rfl⟩ := h; rfl
theorem Qt.size {w w' : World} (h : Qt w w') : w'.heap.size = w.heap.size := by obtain ⟨j, rfl⟩ := h; rfl
theorem Qt.below {w w' : World} (h : Qt w w') (B : Nat) : Below B w w' := by
 obtain ⟨j, rfl⟩ := h
 exact ⟨rfl, rfl, rfl, Nat.le_refl _, fun _ _ => rfl⟩
theorem Sl.qt {w w' : World} {B sz n : Nat} {v : Value} {xs : List Value} (h : Sl w B sz v n xs) (hq : Qt w w') : Sl w' B sz v n xs := h.keep fun b o _ => hq.cell _
theorem quiet_qt {f : FuncId} {args : Array Value} {w : World} {n : Nat} {v : Value} (h : Calls Tryz.prog f args (w.drewN n) fun e w' => e = .returned v ∧ Qt (w.drewN n) w') :
  Calls Tryz.prog f args (w.drewN n) fun e w'' => e = .returned v ∧ ∃ m, w'' = w.drewN m :=
 h.mono fun _ _ ⟨he, m, hm⟩ => ⟨he, n + m, by rw [hm, World.drewN_drewN]⟩
theorem quiet_eq {f : FuncId} {args : Array Value} {w : World} {n : Nat} {v : Value} (h : Calls Tryz.prog f args (w.drewN n) fun e w' => e = .returned v ∧ w.drewN n = w') :
  Calls Tryz.prog f args (w.drewN n) fun e w'' => e = .returned v ∧ ∃ m, w'' = w.drewN m :=
 h.mono fun _ _ ⟨he, hm⟩ => ⟨he, n, hm.symm⟩
theorem ints_cell {w : World} {b o : Nat} {p : List Int} (h : ∀ j u, (ints p)[j]? = some u → w.cell? ⟨b, o + j, none⟩ = some u) {k : Nat} (hk : k < p.length) : w.cell? ⟨b, o + k, none⟩ = some (.int .i64 (p.getD k 0)) :=
 h k _ (ints_at p k hk)
theorem Sl.alloc {w : World} {B sz n : Nat} {v : Value} {xs : List Value} (h : Sl w B sz v n xs) (hB : B ≤ w.heap.size) (o : Obj) : Sl (w.alloc o) B sz v n xs :=
 h.below ((Below.refl _ _).alloc hB o) (Nat.le_refl _)
theorem own_empty (w : World) (e : TypeId) (sz base : Nat) (hb : base ≤ w.heap.size) : (w.alloc (.cells #[] e)).ownsRow base e sz (.slice (some ⟨w.heap.size, 0, none⟩) 0 0) 0 [] :=
 World.ownsRow_made w #[] 0 hb (by unfold maxLen; omega) (by simp)
theorem own_form {w : World} {base : Nat} {e : TypeId} {sz n : Nat} {v : Value} {xs : List Value} (h : w.ownsRow base e sz v n xs) (hn : 0 < n) :
  ∃ k cap, v = .slice (some ⟨k, 0, none⟩) n cap ∧ base ≤ k ∧ k < w.heap.size := by
 rcases h.2 with ⟨_, h0⟩ | ⟨k, cap, cur, hv, hb, hh, _⟩
 · omega
 · exact ⟨k, cap, hv, hb, (Array.getElem?_eq_some_iff.1 hh).1⟩
def eds (l : List (Int × Int × Int)) : List Value := l.flatMap fun e => [.int .i64 e.1, .int .i64 e.2.1, .int .i64 e.2.2]
theorem len_eds (l : List (Int × Int × Int)) : (eds l).length = l.length * 3 := by
 induction l with
 | nil => rfl
 | cons e l ih => simp [eds] at ih ⊢; omega
theorem eds_app (p q : List (Int × Int × Int)) : eds p ++ eds q = eds (p ++ q) := by simp [eds]
theorem eds_at (l : List (Int × Int × Int)) (k : Nat) (h : k < l.length) :
  (eds l)[k * 3]? = some (.int .i64 l[k].1) ∧ (eds l)[k * 3 + 1]? = some (.int .i64 l[k].2.1) ∧ (eds l)[k * 3 + 2]? = some (.int .i64 l[k].2.2) := by
 induction l generalizing k with
 | nil => simp at h
 | cons e l ih =>
  cases k with
  | zero => simp [eds]
  | succ k =>
   have := ih k (by simpa using h)
   simp only [eds, List.flatMap_cons, List.getElem_cons_succ] at this ⊢
   refine ⟨?_, ?_, ?_⟩
   · rw [show (k + 1) * 3 = k * 3 + 3 by omega, List.getElem?_append_right (by simp)]; simpa using this.1
   · rw [show (k + 1) * 3 + 1 = k * 3 + 1 + 3 by omega, List.getElem?_append_right (by simp)]; simpa using this.2.1
   · rw [show (k + 1) * 3 + 2 = k * 3 + 2 + 3 by omega, List.getElem?_append_right (by simp)]; simpa using this.2.2
theorem eds_cell {w : World} {b o : Nat} {l : List (Int × Int × Int)} (h : ∀ j u, (eds l)[j]? = some u → w.cell? ⟨b, o + j, none⟩ = some u) {k : Nat} (hk : k < l.length) :
  w.cell? ⟨b, o + k * 3, none⟩ = some (.int .i64 l[k].1) ∧ w.cell? ⟨b, o + k * 3 + 1, none⟩ = some (.int .i64 l[k].2.1) ∧ w.cell? ⟨b, o + k * 3 + 2, none⟩ = some (.int .i64 l[k].2.2) := by
 have e := eds_at l k hk
 exact ⟨h _ _ e.1, by rw [Nat.add_assoc]; exact h _ _ e.2.1, by rw [Nat.add_assoc]; exact h _ _ e.2.2⟩
theorem eds_one (l : List (Int × Int × Int)) : ∀ u ∈ eds l, u.oneCell' = true := by
 intro u hu
 obtain ⟨e, _, h⟩ := List.mem_flatMap.1 hu
 simp at h
 rcases h with rfl | rfl | rfl <;> rfl
/-! ## Steps of a law: nothing that was there has turned -/
theorem Bl.call {w a b : World} (h : Below w.heap.size w a) (h' : Below a.heap.size a b) : Below w.heap.size w b := h.trans (h'.mono h.size)
theorem Bl.qt {w a b : World} (h : Below w.heap.size w a) (h' : Qt a b) : Below w.heap.size w b := h.trans (h'.below _)
theorem Bl.new {w a : World} (h : Below w.heap.size w a) (o : Obj) : Below w.heap.size w (a.alloc o) := h.alloc h.size o
theorem Sl.call {w a : World} {sz n : Nat} {v : Value} {xs : List Value} (h : Sl w w.heap.size sz v n xs) (hb : Below w.heap.size w a) : Sl a a.heap.size sz v n xs := (h.below hb (Nat.le_refl _)).more hb.size
theorem Sl.cqt {w a : World} {sz n : Nat} {v : Value} {xs : List Value} (h : Sl w w.heap.size sz v n xs) (hb : Qt w a) : Sl a a.heap.size sz v n xs := h.call (hb.below _)
theorem Sl.new {w : World} {sz n : Nat} {v : Value} {xs : List Value} (h : Sl w w.heap.size sz v n xs) (o : Obj) : Sl (w.alloc o) (w.alloc o).heap.size sz v n xs := h.call ((Below.refl _ _).alloc (Nat.le_refl _) o)
theorem Qt.bel {a b : World} (h : Qt a b) : Below a.heap.size a b := h.below _
theorem bel_new (a : World) (o : Obj) : Below a.heap.size a (a.alloc o) := (Below.refl _ _).alloc (Nat.le_refl _) o
def IsTrue (w : World) (e : Ending) (w' : World) : Prop := e = .returned (.bool true) ∧ Below w.heap.size w w'
end Go.Proofs.YtahodfikhocobaaGreatDoor
namespace Go.Proofs.YtahodfikhocobaaGreatDoor
open Go.ChangeShapes Go.WideShapes Go.ChangeAt Go.RowKit Go.Deep
set_option linter.unusedVariables false
set_option maxRecDepth 100000 in
theorem own_knob : ownKnob Tryz.prog.godebug = none := by kernel_rfl
set_option maxRecDepth 100000 in
theorem laid_out : laidOutB Tryz.prog = true := by kernel_rfl
section
variable {H : Type} {enc : TypeId × Value → H} {w : World} {spare : Nat → Bool} {held : Bool}
set_option maxRecDepth 100000 in
theorem add_flat (b o : Nat) (k j : Nat) : ((⟨b, o, none⟩ : Addr).add k).add j = ⟨b, o + (k + j), none⟩ := by
 rw [Addr.add_lit, Addr.add_lit, Nat.add_assoc]
set_option maxRecDepth 100000 in
theorem flat_at {D : Nat → List Value} {C n : Nat} (hD : ∀ i, i < n → (D i).length = C) : ((List.range n).flatMap D).length = n * C ∧
  ∀ j u, ((List.range n).flatMap D)[j]? = some u → ∃ i k, i < n ∧ k < C ∧ j = i * C + k ∧ (D i)[k]? = some u := by
 induction n with
 | zero => simp
 | succ n ih =>
  obtain ⟨h1, h2⟩ := ih fun i hi => hD i (by omega)
  rw [List.range_succ, List.flatMap_append]
  simp only [List.flatMap_cons, List.flatMap_nil, List.append_nil]
  refine ⟨by rw [List.length_append, h1, hD n (by omega), Nat.succ_mul], fun j u hu => ?_⟩
  by_cases hj : j < n * C
  ·
   rw [List.getElem?_append_left (by rw [h1]; exact hj)] at hu
   obtain ⟨i, k, a, b, c, d⟩ := h2 j u hu
   exact ⟨i, k, by omega, b, c, d⟩
  ·
   rw [List.getElem?_append_right (by rw [h1]; omega), h1] at hu
   have hk : j - n * C < (D n).length := (List.getElem?_eq_some_iff.1 hu).1
   rw [hD n (by omega)] at hk
   exact ⟨n, j - n * C, by omega, hk, by omega, hu⟩
set_option maxRecDepth 100000 in
theorem sl_of_slice {t e : TypeId} {C fuel len cap : Nat} {A : Option Addr} {x : DataW H × List MemPlace} (ht : Tryz.prog.underlying t = some (.slice e)) (hC : Tryz.prog.cellsOf e = C) (h0 : 0 < C)
  (h : DataW.trod enc Tryz.prog w 0 spare held fuel t [.slice A len cap] = some x) :
  ∃ D : Nat → List Value, Sl w w.heap.size C (.slice A len cap) len ((List.range len).flatMap D) ∧ ∀ i, i < len → (D i).length = C ∧ ∃ n y, DataW.trod enc Tryz.prog w 0 spare held n e (D i) = some y := by
 rcases open_slice ht h with ⟨hcs, _⟩ | ⟨a, len', cap', m, n, D, Pl, hcs, _, hl, hm, hmm, _, hi⟩
 ·
  simp at hcs
  obtain ⟨rfl, rfl, rfl⟩ := hcs
  exact ⟨fun _ => [], Sl.none_ _ _ _, fun i hi => by omega⟩
 ·
  simp at hcs
  obtain ⟨rfl, rfl, rfl⟩ := hcs
  rw [hC] at hi
  have hlm : len ≤ m := by rw [hmm]; split <;> omega
  have hex : ∀ i, ∃ cs', i < len → w.cells? 0 (a.add (i * C)) C = some cs' ∧ DataW.trod enc Tryz.prog w 0 spare held n e cs' = some (D i, Pl i) := by
   intro i
   by_cases hlt : i < len
   ·
    obtain ⟨cs', h1, h2⟩ := hi i (by omega)
    exact ⟨cs', fun _ => ⟨h1, h2⟩⟩
   · exact ⟨[], fun h => absurd h hlt⟩
  have hD : ∃ E : Nat → List Value, ∀ i, i < len → w.cells? 0 (a.add (i * C)) C = some (E i) ∧ DataW.trod enc Tryz.prog w 0 spare held n e (E i) = some (D i, Pl i) :=
   ⟨fun i => Classical.choose (hex i), fun i => Classical.choose_spec (hex i)⟩
  obtain ⟨E, hE⟩ := hD
  have hlen : ∀ i, i < len → (E i).length = C := fun i hi => (World.cells?_some (hE i hi).1).2.1
  obtain ⟨f1, f2⟩ := flat_at hlen
  refine ⟨E, ⟨some a, cap, rfl, hl, hm, f1, fun hn => ?_⟩, fun i hi => ⟨hlen i hi, _, _, (hE i hi).2⟩⟩
  obtain ⟨_, q1, q2⟩ := World.cells?_some (hE 0 hn).1
  have hc0 := q2 0 h0
  have hv0 : (E 0)[0]? = some ((E 0)[0]'(by omega)) := List.getElem?_eq_getElem (by omega)
  rw [hv0] at hc0
  obtain ⟨b, o, spot⟩ := a
  have hspot : spot = none := by simpa [Addr.add] using World.cell?_spot hc0
  subst hspot
  refine ⟨b, o, rfl, by simpa [Addr.add] using World.block_lt_of_cell? w _ hc0, fun j u hu => ?_⟩
  obtain ⟨i, k, hi', hk, rfl, hu'⟩ := f2 j u hu
  have := (World.cells?_some (hE i hi').1).2.2 k hk
  rw [add_flat, hu'] at this
  exact this
set_option maxRecDepth 100000 in
theorem slice_shape {t e : TypeId} {v : Value} {d : DataW H} {p : List MemPlace} (ht : Tryz.prog.underlying t = some (.slice e)) {r : Reach} {b : Nat} (hv : Value.okWide Tryz.prog w r b t v) (h : DataW.Trod enc Tryz.prog w 0 spare held t v d p) :
  ∃ A len cap fuel, v = .slice A len cap ∧ DataW.trod enc Tryz.prog w 0 spare held fuel t [.slice A len cap] = some (d, p) := by
 obtain ⟨A, len, cap, rfl⟩ := okWide_slice ht hv
 obtain ⟨fuel, hf⟩ := h
 exact ⟨A, len, cap, fuel, rfl, by simpa [Value.cells] using hf⟩
end
def wfI (n : Int) : Prop := -9223372036854775808 ≤ n ∧ n ≤ 9223372036854775807
set_option maxRecDepth 100000 in
theorem wfI_of {n : Int} (h : (Lit.int .i64 n).wf = true) : wfI n := by
 have e1 : IntKind.i64.min = -9223372036854775808 := by decide
 have e2 : IntKind.i64.max = 9223372036854775807 := by decide
 simp [Lit.wf] at h
 unfold wfI; omega
section
variable {H : Type} {enc : TypeId × Value → H} {w : World} {spare : Nat → Bool} {held : Bool}
set_option maxRecDepth 100000 in
theorem fields3 {t : TypeId} {n : Nat} {cs : List Value} {y : DataW H × List MemPlace} {f0 f1 f2 : Field} (hs : Tryz.prog.underlying t = some (.struct #[f0, f1, f2])) (hC : Tryz.prog.cellsOf t = 3)
  (o : f0.offset = 0 ∧ f1.offset = 1 ∧ f2.offset = 2) (c : Tryz.prog.cellsOf f0.type = 1 ∧ Tryz.prog.cellsOf f1.type = 1 ∧ Tryz.prog.cellsOf f2.type = 1) (h : DataW.trod enc Tryz.prog w 0 spare held n t cs = some y) :
  ∃ v0 v1 v2 n' y0 y1 y2, cs = [v0, v1, v2] ∧ DataW.trod enc Tryz.prog w 0 spare held n' f0.type [v0] = some y0 ∧ DataW.trod enc Tryz.prog w 0 spare held n' f1.type [v1] = some y1 ∧ DataW.trod enc Tryz.prog w 0 spare held n' f2.type [v2] = some y2 := by
 obtain ⟨ys, n', hn', hy, hlen, hyl, hf⟩ := DataW.trod_struct hs h
 rw [hC] at hlen
 match cs, hlen with
 | [v0, v1, v2], _ =>
  match ys, hyl with
  | [y0, y1, y2], _ =>
   refine ⟨v0, v1, v2, n', y0, y1, y2, rfl, ?_, ?_, ?_⟩
   · simpa [o.1, c.1] using hf 0 f0 rfl
   · simpa [o.2.1, c.2.1] using hf 1 f1 rfl
   · simpa [o.2.2, c.2.2] using hf 2 f2 rfl
end
set_option maxRecDepth 100000 in
theorem gather {α : Type} {D : Nat → List Value} {f : α → List Value} {good : α → Prop} {n : Nat} (h : ∀ i, i < n → ∃ a, D i = f a ∧ good a) :
  ∃ l : List α, l.length = n ∧ (List.range n).flatMap D = l.flatMap f ∧ ∀ a ∈ l, good a := by
 induction n with
 | zero => exact ⟨[], rfl, rfl, fun a ha => by cases ha⟩
 | succ n ih =>
  obtain ⟨l, h1, h2, h3⟩ := ih fun i hi => h i (by omega)
  obtain ⟨a, h4, h5⟩ := h n (by omega)
  refine ⟨l ++ [a], by simp [h1], by rw [List.range_succ, List.flatMap_append, List.flatMap_append, h2]; simp [h4], fun x hx => ?_⟩
  rcases List.mem_append.1 hx with hx | hx
  · exact h3 x hx
  · simp at hx; subst hx; exact h5
section
variable {H : Type} {enc : TypeId × Value → H} {w : World} {spare : Nat → Bool} {held : Bool}
end
set_option maxRecDepth 100000 in
theorem wf_u8 {n : Int} (h : (Lit.int .u8 n).wf = true) : 0 ≤ n ∧ n ≤ 255 := by
 have e1 : IntKind.u8.min = 0 := by decide
 have e2 : IntKind.u8.max = 255 := by decide
 simp [Lit.wf] at h
 omega
set_option maxRecDepth 100000 in
theorem wf_u64 {n : Int} (h : (Lit.int .u64 n).wf = true) : 0 ≤ n ∧ n ≤ 18446744073709551615 := by
 have e1 : IntKind.u64.min = 0 := by decide
 have e2 : IntKind.u64.max = 18446744073709551615 := by decide
 simp [Lit.wf] at h
 omega
section
variable {H : Type} {enc : TypeId × Value → H} {w : World} {spare : Nat → Bool} {held : Bool}
end
end Go.Proofs.YtahodfikhocobaaGreatDoor
set_option linter.unusedVariables false
set_option linter.unusedVariables false
namespace Sq

inductive Tr (α : Type) where
  | nil : Tr α
  | node : Tr α → α → Tr α → Tr α

variable {α : Type}
def ht : Tr α → Nat
 | .nil => 0
 | .node a _ b => max (ht a) (ht b) + 1
def sz : Tr α → Nat
 | .nil => 0
 | .node a _ b => sz a + 1 + sz b
def ls : Tr α → List α
 | .nil => []
 | .node a x b => ls a ++ x :: ls b
theorem len_ls (t : Tr α) : (ls t).length = sz t := by
 induction t with
 | nil => rfl
 | node a x b iha ihb => simp [ls, sz, iha, ihb]; omega
theorem ht_le_sz (t : Tr α) : ht t ≤ sz t := by
 induction t with
 | nil => exact Nat.le_refl _
 | node a x b iha ihb => simp [ht, sz]; omega
theorem sz_zero {t : Tr α} (h : sz t = 0) : t = .nil := by
 cases t with
 | nil => rfl
 | node a x b => simp [sz] at h
def turned (a : Tr α) (x : α) (b : Tr α) : Tr α :=
 if ht b + 1 < ht a then
  match a with
  | .nil => .node a x b
  | .node aa ax ab =>
   if ht ab ≤ ht aa then .node aa ax (.node ab x b)
   else match ab with
    | .nil => .node a x b
    | .node ta tx tb => .node (.node aa ax ta) tx (.node tb x b)
 else if ht a + 1 < ht b then
  match b with
  | .nil => .node a x b
  | .node ba bx bb =>
   if ht ba ≤ ht bb then .node (.node a x ba) bx bb
   else match ba with
    | .nil => .node a x b
    | .node ta tx tb => .node (.node a x ta) tx (.node tb bx bb)
 else .node a x b
theorem turned_l1 {aa : Tr α} {ax : α} {ab : Tr α} {x : α} {b : Tr α} (h : ht b + 1 < ht (.node aa ax ab)) (h1 : ht ab ≤ ht aa) : turned (.node aa ax ab) x b = .node aa ax (.node ab x b) := by
 unfold turned; rw [if_pos h]; simp only []; rw [if_pos h1]
theorem turned_l2 {aa : Tr α} {ax : α} {ta : Tr α} {tx : α} {tb : Tr α} {x : α} {b : Tr α} (h : ht b + 1 < ht (.node aa ax (.node ta tx tb))) (h1 : ¬ ht (.node ta tx tb) ≤ ht aa) :
  turned (.node aa ax (.node ta tx tb)) x b = .node (.node aa ax ta) tx (.node tb x b) := by
 unfold turned; rw [if_pos h]; simp only []; rw [if_neg h1]
theorem turned_r1 {a : Tr α} {x : α} {ba : Tr α} {bx : α} {bb : Tr α} (h0 : ¬ ht (.node ba bx bb) + 1 < ht a) (h : ht a + 1 < ht (.node ba bx bb)) (h1 : ht ba ≤ ht bb) : turned a x (.node ba bx bb) = .node (.node a x ba) bx bb := by
 unfold turned; rw [if_neg h0, if_pos h]; simp only []; rw [if_pos h1]
theorem turned_r2 {a : Tr α} {x : α} {ta : Tr α} {tx : α} {tb : Tr α} {bx : α} {bb : Tr α} (h0 : ¬ ht (.node (.node ta tx tb) bx bb) + 1 < ht a) (h : ht a + 1 < ht (.node (.node ta tx tb) bx bb)) (h1 : ¬ ht (.node ta tx tb) ≤ ht bb) :
  turned a x (.node (.node ta tx tb) bx bb) = .node (.node a x ta) tx (.node tb bx bb) := by
 unfold turned; rw [if_neg h0, if_pos h]; simp only []; rw [if_neg h1]
theorem turned_c {a : Tr α} {x : α} {b : Tr α} (h0 : ¬ ht b + 1 < ht a) (h1 : ¬ ht a + 1 < ht b) : turned a x b = .node a x b := by
 unfold turned; rw [if_neg h0, if_neg h1]
theorem ls_turned (a : Tr α) (x : α) (b : Tr α) : ls (turned a x b) = ls a ++ x :: ls b := by
 unfold turned
 split
 ·
  split
  · rfl
  ·
   split
   · simp [ls]
   ·
    split
    · simp [ls]
    · simp [ls]
 ·
  split
  ·
   split
   · rfl
   ·
    split
    · simp [ls]
    ·
     split
     · simp [ls]
     · simp [ls]
  · rfl
def aroundF : Nat → Tr α → α → Tr α → Tr α
 | 0, a, x, b => .node a x b
 | n + 1, a, x, b =>
  if ht b + 1 < ht a then
   match a with
   | .nil => .node a x b
   | .node aa ax ab => turned aa ax (aroundF n ab x b)
  else if ht a + 1 < ht b then
   match b with
   | .nil => .node a x b
   | .node ba bx bb => turned (aroundF n a x ba) bx bb
  else .node a x b
theorem aroundF_eq (n m : Nat) (a : Tr α) (x : α) (b : Tr α) (hn : sz a + sz b ≤ n) (hm : sz a + sz b ≤ m) : aroundF n a x b = aroundF m a x b := by
 induction n generalizing m a b with
 | zero =>
  have ha : a = .nil := sz_zero (by omega)
  have hb : b = .nil := sz_zero (by omega)
  subst ha hb
  cases m <;> simp [aroundF, ht]
 | succ n ih =>
  cases m with
  | zero =>
   have ha : a = .nil := sz_zero (by omega)
   have hb : b = .nil := sz_zero (by omega)
   subst ha hb
   simp [aroundF, ht]
  | succ m =>
   simp only [aroundF]
   split
   ·
    cases a with
    | nil => rfl
    | node aa ax ab =>
     simp only [sz] at hn hm
     show turned aa ax (aroundF n ab x b) = turned aa ax (aroundF m ab x b)
     rw [ih m ab b (by omega) (by omega)]
   ·
    split
    ·
     cases b with
     | nil => rfl
     | node ba bx bb =>
      simp only [sz] at hn hm
      show turned (aroundF n a x ba) bx bb = turned (aroundF m a x ba) bx bb
      rw [ih m a ba (by omega) (by omega)]
    · rfl
def around (a : Tr α) (x : α) (b : Tr α) : Tr α := aroundF (sz a + sz b) a x b
theorem around_left {aa : Tr α} {ax : α} {ab : Tr α} {x : α} {b : Tr α} (h : ht b + 1 < ht (.node aa ax ab)) : around (.node aa ax ab) x b = turned aa ax (around ab x b) := by
 unfold around
 rw [aroundF_eq _ (sz ab + sz b + (sz aa + 1)) _ _ _ (Nat.le_refl _) (by simp [sz]; omega), show sz ab + sz b + (sz aa + 1) = (sz ab + sz b + sz aa) + 1 by omega]
 simp only [aroundF]
 rw [if_pos h]
 show turned aa ax (aroundF _ ab x b) = _
 rw [aroundF_eq _ (sz ab + sz b) _ _ _ (by omega) (Nat.le_refl _)]
theorem around_right {a : Tr α} {x : α} {ba : Tr α} {bx : α} {bb : Tr α} (h0 : ¬ ht (.node ba bx bb) + 1 < ht a) (h : ht a + 1 < ht (.node ba bx bb)) : around a x (.node ba bx bb) = turned (around a x ba) bx bb := by
 unfold around
 rw [aroundF_eq _ (sz a + sz ba + (sz bb + 1)) _ _ _ (Nat.le_refl _) (by simp [sz]; omega), show sz a + sz ba + (sz bb + 1) = (sz a + sz ba + sz bb) + 1 by omega]
 simp only [aroundF]
 rw [if_neg h0, if_pos h]
 show turned (aroundF _ a x ba) bx bb = _
 rw [aroundF_eq _ (sz a + sz ba) _ _ _ (by omega) (Nat.le_refl _)]
theorem around_mid {a : Tr α} {x : α} {b : Tr α} (h0 : ¬ ht b + 1 < ht a) (h1 : ¬ ht a + 1 < ht b) : around a x b = .node a x b := by
 unfold around
 rw [aroundF_eq _ (sz a + sz b + 1) _ _ _ (Nat.le_refl _) (by omega)]
 simp only [aroundF]
 rw [if_neg h0, if_neg h1]
theorem ls_around (a : Tr α) (x : α) (b : Tr α) : ls (around a x b) = ls a ++ x :: ls b := by
 generalize hn : sz a + sz b = n
 induction n using Nat.strongRecOn generalizing a b with
 | _ n ih =>
  by_cases h0 : ht b + 1 < ht a
  ·
   cases a with
   | nil => simp [ht] at h0
   | node aa ax ab =>
    rw [around_left h0, ls_turned, ih (sz ab + sz b) (by simp [sz] at hn; omega) _ _ rfl]
    simp [ls]
  ·
   by_cases h1 : ht a + 1 < ht b
   ·
    cases b with
    | nil => simp [ht] at h1
    | node ba bx bb =>
     rw [around_right h0 h1, ls_turned, ih (sz a + sz ba) (by simp [sz] at hn; omega) _ _ rfl]
     simp [ls]
   · rw [around_mid h0 h1]; rfl
theorem sz_around (a : Tr α) (x : α) (b : Tr α) : sz (around a x b) = sz a + 1 + sz b := by
 rw [← len_ls, ls_around]; simp [len_ls]; try omega
def split : Tr α → Int → Tr α × Tr α
 | .nil, _ => (.nil, .nil)
 | .node a x b, at_ =>
  if at_ ≤ 0 then (.nil, .node a x b)
  else if (sz (.node a x b) : Int) ≤ at_ then (.node a x b, .nil)
  else if at_ ≤ (sz a : Int) then ((split a at_).1, around (split a at_).2 x b)
  else (around a x (split b (at_ - sz a - 1)).1, (split b (at_ - sz a - 1)).2)
theorem ls_split (t : Tr α) (i : Int) : ls (split t i).1 = (ls t).take i.toNat ∧ ls (split t i).2 = (ls t).drop i.toNat := by
 induction t generalizing i with
 | nil => simp [split, ls]
 | node a x b iha ihb =>
  rw [split]
  split
  ·
   rename_i h
   have : i.toNat = 0 := by omega
   simp [this, ls]
  ·
   split
   ·
    rename_i h h2
    have : (ls (.node a x b)).length ≤ i.toNat := by rw [len_ls]; omega
    rw [List.take_of_length_le this, List.drop_of_length_le this]
    exact ⟨rfl, rfl⟩
   ·
    split
    ·
     rename_i h h2 h3
     obtain ⟨e1, e2⟩ := iha i
     have hl : i.toNat ≤ (ls a).length := by rw [len_ls]; omega
     refine ⟨?_, ?_⟩
     ·
      simp only [e1, ls]
      rw [List.take_append_of_le_length hl]
     ·
      simp only [ls_around, e2, ls]
      rw [List.drop_append_of_le_length hl]
    ·
     rename_i h h2 h3
     obtain ⟨e1, e2⟩ := ihb (i - sz a - 1)
     have hl := len_ls a
     have e3 : i.toNat = (ls a).length + ((i - sz a - 1).toNat + 1) := by omega
     refine ⟨?_, ?_⟩
     · simp only [ls_around, e1, ls, e3, List.take_length_add_append, List.take_succ_cons]
     · simp only [e2, ls, e3, List.drop_length_add_append, List.drop_succ_cons]
def atT : Tr α → Nat → Option α
 | .nil, _ => none
 | .node a x b, i => if i < sz a then atT a i else if i = sz a then some x else atT b (i - sz a - 1)
theorem atT_ls (t : Tr α) (i : Nat) : atT t i = (ls t)[i]? := by
 induction t generalizing i with
 | nil => simp [atT, ls]
 | node a x b iha ihb =>
  simp only [atT, ls]
  have hl := len_ls a
  split
  · rw [List.getElem?_append_left (by omega)]; exact iha i
  ·
   split
   ·
    rename_i h1 h2
    rw [List.getElem?_append_right (by omega), h2, hl]; simp
   ·
    rw [List.getElem?_append_right (by omega), hl, show i - sz a = (i - sz a - 1) + 1 by omega, List.getElem?_cons_succ]
    exact ihb _
def join (a b : Tr α) : Tr α :=
 match atT b 0 with
 | none => a
 | some x => around a x (split b 1).2
theorem ls_join (a b : Tr α) : ls (join a b) = ls a ++ ls b := by
 unfold join
 rw [atT_ls]
 cases h : (ls b)[0]? with
 | none => 
  have : ls b = [] := by cases hb : ls b with
   | nil => rfl
   | cons x l => rw [hb] at h; simp at h
  simp [this]
 | some x =>
  simp only [ls_around, (ls_split b 1).2]
  cases hb : ls b with
  | nil => rw [hb] at h; simp at h
  | cons y l => rw [hb] at h; simp at h; simp [h]
end Sq

set_option linter.unusedVariables false
namespace Sq
variable {α : Type}

def Bal : Tr α → Prop
 | .nil => True
 | .node a _ b => Bal a ∧ Bal b ∧ ht a ≤ ht b + 1 ∧ ht b ≤ ht a + 1
theorem bal_turned (a : Tr α) (x : α) (b : Tr α) (ha : Bal a) (hb : Bal b) (h1 : ht a ≤ ht b + 2) (h2 : ht b ≤ ht a + 2) :
  Bal (turned a x b) ∧ max (ht a) (ht b) ≤ ht (turned a x b) ∧ ht (turned a x b) ≤ max (ht a) (ht b) + 1 ∧ (ht a ≤ ht b + 1 → ht b ≤ ht a + 1 → ht (turned a x b) = max (ht a) (ht b) + 1) := by
 by_cases c1 : ht b + 1 < ht a
 ·
  cases a with
  | nil => simp [ht] at c1
  | node aa ax ab =>
   obtain ⟨b1, b2, b3, b4⟩ := ha
   by_cases c2 : ht ab ≤ ht aa
   ·
    rw [turned_l1 c1 c2]
    simp only [ht, Bal] at *
    refine ⟨⟨b1, ⟨b2, hb, by omega, by omega⟩, by omega, by omega⟩, by omega, by omega, by omega⟩
   ·
    cases ab with
    | nil => simp [ht] at c2
    | node ta tx tb =>
     rw [turned_l2 c1 c2]
     obtain ⟨e1, e2, e3, e4⟩ := b2
     simp only [ht, Bal] at *
     refine ⟨⟨⟨b1, e1, by omega, by omega⟩, ⟨e2, hb, by omega, by omega⟩, by omega, by omega⟩, by omega, by omega, by omega⟩
 ·
  by_cases c2 : ht a + 1 < ht b
  ·
   cases b with
   | nil => simp [ht] at c2
   | node ba bx bb =>
    obtain ⟨b1, b2, b3, b4⟩ := hb
    by_cases c3 : ht ba ≤ ht bb
    ·
     rw [turned_r1 c1 c2 c3]
     simp only [ht, Bal] at *
     refine ⟨⟨⟨ha, b1, by omega, by omega⟩, b2, by omega, by omega⟩, by omega, by omega, by omega⟩
    ·
     cases ba with
     | nil => simp [ht] at c3
     | node ta tx tb =>
      rw [turned_r2 c1 c2 c3]
      obtain ⟨e1, e2, e3, e4⟩ := b1
      simp only [ht, Bal] at *
      refine ⟨⟨⟨ha, e1, by omega, by omega⟩, ⟨e2, b2, by omega, by omega⟩, by omega, by omega⟩, by omega, by omega, by omega⟩
  ·
   rw [turned_c c1 c2]
   simp only [ht, Bal] at *
   refine ⟨⟨ha, hb, by omega, by omega⟩, by omega, ?_, ?_⟩
   all_goals first | trivial | omega | (intros; trivial)
theorem bal_around (a : Tr α) (x : α) (b : Tr α) (ha : Bal a) (hb : Bal b) :
  Bal (around a x b) ∧ max (ht a) (ht b) ≤ ht (around a x b) ∧ ht (around a x b) ≤ max (ht a) (ht b) + 1 := by
 generalize hn : sz a + sz b = n
 induction n using Nat.strongRecOn generalizing a b with
 | _ n ih =>
  by_cases h0 : ht b + 1 < ht a
  ·
   cases a with
   | nil => simp [ht] at h0
   | node aa ax ab =>
    obtain ⟨b1, b2, b3, b4⟩ := ha
    obtain ⟨r1, r2, r3⟩ := ih (sz ab + sz b) (by simp [sz] at hn; omega) ab b b2 hb rfl
    rw [around_left h0]
    generalize around ab x b = r at *
    simp only [ht] at h0
    obtain ⟨t1, t2, t3, t4⟩ := bal_turned aa ax r b1 r1 (by omega) (by omega)
    refine ⟨t1, ?_, ?_⟩
    ·
     simp only [ht]
     by_cases hd : ht r ≤ ht aa + 1
     · have := t4 (by omega) hd; omega
     · omega
    · simp only [ht]; omega
  ·
   by_cases h1 : ht a + 1 < ht b
   ·
    cases b with
    | nil => simp [ht] at h1
    | node ba bx bb =>
     obtain ⟨b1, b2, b3, b4⟩ := hb
     obtain ⟨r1, r2, r3⟩ := ih (sz a + sz ba) (by simp [sz] at hn; omega) a ba ha b1 rfl
     rw [around_right h0 h1]
     generalize around a x ba = r at *
     simp only [ht] at h1
     obtain ⟨t1, t2, t3, t4⟩ := bal_turned r bx bb r1 b2 (by omega) (by omega)
     refine ⟨t1, ?_, ?_⟩
     ·
      simp only [ht]
      by_cases hd : ht r ≤ ht bb + 1
      · have := t4 hd (by omega); omega
      · omega
     · simp only [ht]; omega
   ·
    rw [around_mid h0 h1]
    simp only [ht, Bal]
    exact ⟨⟨ha, hb, by omega, by omega⟩, by omega, by omega⟩
theorem bal_split (t : Tr α) (i : Int) (h : Bal t) : Bal (split t i).1 ∧ Bal (split t i).2 := by
 induction t generalizing i with
 | nil => exact ⟨trivial, trivial⟩
 | node a x b iha ihb =>
  rw [split]
  split
  · exact ⟨trivial, h⟩
  ·
   split
   · exact ⟨h, trivial⟩
   ·
    obtain ⟨b1, b2, b3, b4⟩ := h
    split
    · exact ⟨(iha i b1).1, (bal_around _ _ _ (iha i b1).2 b2).1⟩
    · exact ⟨(bal_around _ _ _ b1 (ihb _ b2).1).1, (ihb _ b2).2⟩
theorem bal_join (a b : Tr α) (ha : Bal a) (hb : Bal b) : Bal (join a b) := by
 unfold join
 split
 · exact ha
 · exact (bal_around _ _ _ ha (bal_split b 1 hb).2).1
end Sq

set_option linter.unusedVariables false
namespace Dc

def Srt (l : List (Int × Int)) : Prop := l.Pairwise fun a b => a.1 < b.1
def less (l : List (Int × Int)) (k : Int) : Nat := (l.filter fun e => decide (e.1 < k)).length
def get (l : List (Int × Int)) (k : Int) : Option Int := (l.find? fun e => e.1 == k).map (·.2)
def put (l : List (Int × Int)) (k n : Int) : List (Int × Int) := (l.filter fun e => decide (e.1 < k)) ++ (k, n) :: (l.filter fun e => decide (k < e.1))
theorem less_le (l : List (Int × Int)) (k : Int) : less l k ≤ l.length := List.length_filter_le _ _
theorem srt_cons {e : Int × Int} {l : List (Int × Int)} (h : Srt (e :: l)) : (∀ x ∈ l, e.1 < x.1) ∧ Srt l := List.pairwise_cons.1 h
theorem filter_none {l : List (Int × Int)} {p : Int × Int → Bool} (h : ∀ x ∈ l, p x = false) : l.filter p = [] := by
 rw [List.filter_eq_nil_iff]; intro a ha; simp [h a ha]
theorem filter_all {l : List (Int × Int)} {p : Int × Int → Bool} (h : ∀ x ∈ l, p x = true) : l.filter p = l := List.filter_eq_self.2 h
theorem take_less (l : List (Int × Int)) (k : Int) (h : Srt l) : l.take (less l k) = l.filter (fun e => decide (e.1 < k)) ∧ l.drop (less l k) = l.filter (fun e => decide (k ≤ e.1)) := by
 induction l with
 | nil => simp [less]
 | cons e l ih =>
  obtain ⟨h1, h2⟩ := srt_cons h
  by_cases c : e.1 < k
  ·
   have e1 : less (e :: l) k = less l k + 1 := by simp [less, c]
   have e2 : ¬ k ≤ e.1 := by omega
   rw [e1, List.take_succ_cons, List.drop_succ_cons, (ih h2).1, (ih h2).2]
   simp [c, e2]
  ·
   have e1 : less (e :: l) k = 0 := by
    unfold less
    rw [filter_none]; rfl
    intro x hx
    rcases List.mem_cons.1 hx with rfl | hx
    · simp [c]
    · have := h1 x hx; simp; omega
   have e2 : (e :: l).filter (fun e => decide (e.1 < k)) = [] := List.eq_nil_of_length_eq_zero e1
   rw [e1, e2, filter_all]
   · simp
   ·
    intro x hx
    rcases List.mem_cons.1 hx with rfl | hx
    · simp; omega
    · have := h1 x hx; simp; omega
theorem less_iff {l : List (Int × Int)} (h : Srt l) (k : Int) (i : Nat) (hi : i < l.length) : k ≤ l[i].1 ↔ less l k ≤ i := by
 have ht := take_less l k h
 constructor
 ·
  intro hk
  rcases Nat.lt_or_ge i (less l k) with h1 | h1
  ·
   have h2 : l[i] ∈ l.take (less l k) := by
    rw [List.mem_take_iff_getElem]; exact ⟨i, by omega, rfl⟩
   rw [ht.1] at h2
   have := (List.mem_filter.1 h2).2
   simp at this; omega
  · exact h1
 ·
  intro hk
  have h2 : l[i] ∈ l.drop (less l k) := by
   rw [List.mem_drop_iff_getElem]; exact ⟨i - less l k, by omega, by congr 1; omega⟩
  rw [ht.2] at h2
  have := (List.mem_filter.1 h2).2
  simpa using this
theorem get_none {l : List (Int × Int)} {k : Int} : get l k = none ↔ ∀ e ∈ l, e.1 ≠ k := by
 unfold get; simp
theorem get_some {l : List (Int × Int)} (h : Srt l) {k n : Int} : get l k = some n ↔ (k, n) ∈ l := by
 induction l with
 | nil => simp [get]
 | cons e l ih =>
  obtain ⟨h1, h2⟩ := srt_cons h
  by_cases c : e.1 = k
  ·
   have e1 : get (e :: l) k = some e.2 := by simp [get, c]
   rw [e1]
   constructor
   · intro he; injection he with he; rw [← he, ← c]; exact List.mem_cons_self ..
   ·
    intro he
    rcases List.mem_cons.1 he with he | he
    · rw [← he]
    · have := h1 _ he; simp at this; omega
  ·
   have e1 : get (e :: l) k = get l k := by simp [get, c]
   rw [e1, ih h2]
   constructor
   · intro he; exact List.mem_cons_of_mem _ he
   ·
    intro he
    rcases List.mem_cons.1 he with he | he
    · rw [← he] at c; exact absurd rfl c
    · exact he
theorem srt_filter {l : List (Int × Int)} (h : Srt l) (p : Int × Int → Bool) : Srt (l.filter p) := List.Pairwise.filter _ h
theorem srt_put {l : List (Int × Int)} (h : Srt l) (k n : Int) : Srt (put l k n) := by
 unfold put Srt
 rw [List.pairwise_append]
 refine ⟨srt_filter h _, List.pairwise_cons.2 ⟨fun x hx => ?_, srt_filter h _⟩, fun a ha b hb => ?_⟩
 · simpa using (List.mem_filter.1 hx).2
 ·
  have h1 := (List.mem_filter.1 ha).2
  rcases List.mem_cons.1 hb with rfl | hb
  · simpa using h1
  ·
   have h2 := (List.mem_filter.1 hb).2
   simp at h1 h2; omega
theorem mem_put {l : List (Int × Int)} {k n : Int} {e : Int × Int} : e ∈ put l k n ↔ e = (k, n) ∨ (e ∈ l ∧ e.1 ≠ k) := by
 unfold put
 rw [List.mem_append, List.mem_cons, List.mem_filter, List.mem_filter]
 simp only [decide_eq_true_eq]
 constructor
 ·
  rintro (⟨h1, h2⟩ | h | ⟨h1, h2⟩)
  · exact .inr ⟨h1, by omega⟩
  · exact .inl h
  · exact .inr ⟨h1, by omega⟩
 ·
  rintro (h | ⟨h1, h2⟩)
  · exact .inr (.inl h)
  ·
   rcases Int.lt_trichotomy e.1 k with h3 | h3 | h3
   · exact .inl ⟨h1, h3⟩
   · exact absurd h3 h2
   · exact .inr (.inr ⟨h1, h3⟩)
/-! ## What the code does -/
theorem at_less {l : List (Int × Int)} (h : Srt l) (k : Int) : get l k = ((l[less l k]?).bind fun e => if e.1 = k then some e.2 else none) := by
 cases hx : l[less l k]? with
 | none =>
  rw [List.getElem?_eq_none_iff] at hx
  show _ = none
  rw [get_none]
  intro e he hk
  obtain ⟨i, hi, rfl⟩ := List.getElem_of_mem he
  have := (less_iff h k i hi).1 (by omega)
  omega
 | some e =>
  obtain ⟨hi, he⟩ := List.getElem?_eq_some_iff.1 hx
  show _ = if e.1 = k then some e.2 else none
  split
  ·
   rename_i hk
   rw [get_some h, ← hk]
   have : l[less l k] ∈ l := List.getElem_mem hi
   rw [he] at this; exact this
  ·
   rename_i hk
   rw [get_none]
   intro x hxm hk2
   obtain ⟨i, hi2, rfl⟩ := List.getElem_of_mem hxm
   have h1 := (less_iff h k i hi2).1 (by omega)
   rcases Nat.lt_or_ge (less l k) i with h2 | h2
   ·
    have h3 := (List.pairwise_iff_getElem.1 h) _ _ hi hi2 h2
    have h4 := (less_iff h k _ hi).2 (Nat.le_refl _)
    rw [he] at h3 h4; omega
   ·
    have : i = less l k := by omega
    subst this
    rw [he] at hk2; exact hk hk2
theorem drop_put {l : List (Int × Int)} (h : Srt l) (k : Int) : (if get l k = none then l.drop (less l k) else l.drop (less l k + 1)) = l.filter fun e => decide (k < e.1) := by
 have ht := (take_less l k h).2
 split
 ·
  rename_i hn
  rw [ht]
  refine List.filter_congr fun x hx => ?_
  have := get_none.1 hn x hx
  simp; omega
 ·
  rename_i hn
  rw [at_less h] at hn
  cases hx : l[less l k]? with
  | none => rw [hx] at hn; exact absurd rfl hn
  | some e =>
   rw [hx] at hn
   obtain ⟨hi, he⟩ := List.getElem?_eq_some_iff.1 hx
   have hk : e.1 = k := by
    apply Classical.byContradiction
    intro hk
    exact hn (by show (if e.1 = k then some e.2 else none) = none; rw [if_neg hk])
   have h1 := List.drop_eq_getElem_cons hi
   rw [he, ht] at h1
   have h2 : (l.filter fun x => decide (k ≤ x.1)).filter (fun x => decide (k < x.1)) = l.filter fun x => decide (k < x.1) := by
    rw [List.filter_filter]
    refine List.filter_congr fun x hx => ?_
    by_cases c : k < x.1
    ·
     have : k ≤ x.1 := by omega
     simp [c, this]
    · simp [c]
   rw [h1] at h2
   have h3 : Srt (e :: l.drop (less l k + 1)) := by
    rw [← h1]; exact srt_filter h _
   have h4 := (srt_cons h3).1
   rw [List.filter_cons_of_neg (by simp; omega), filter_all] at h2
   · exact h2
   ·
    intro x hx
    have := h4 x hx
    simp; omega
theorem put_code {l : List (Int × Int)} (h : Srt l) (k n : Int) : l.take (less l k) ++ (k, n) :: (if get l k = none then l.drop (less l k) else l.drop (less l k + 1)) = put l k n := by
 rw [drop_put h, (take_less l k h).1]; rfl
theorem len_put_new {l : List (Int × Int)} (h : Srt l) (k n : Int) (hk : get l k = none) : (put l k n).length = l.length + 1 := by
 rw [← put_code h, if_pos hk]
 simp
 have := less_le l k; omega
end Dc

set_option linter.unusedVariables false
namespace Dc

end Dc

set_option linter.unusedVariables false
namespace Dc

end Dc

/- Directories: slots as (used, key); the vertices by their keys. -/
set_option linter.unusedVariables false
namespace Vt
abbrev Sl := Bool × Int
def kstep (o : Option (List (Int × Int))) (s : Sl × Nat) : Option (List (Int × Int)) :=
 o.bind fun d => if s.1.1 then (if (Dc.get d s.1.2).isSome then none else some (Dc.put d s.1.2 (s.2 : Int))) else if s.1.2 = 0 then some d else none
def keyed (l : List Sl) : Option (List (Int × Int)) := l.zipIdx.foldl kstep (some [])
theorem keyed_snoc (l : List Sl) (s : Sl) : keyed (l ++ [s]) = kstep (keyed l) (s, l.length) := by
 unfold keyed
 rw [List.zipIdx_append, List.foldl_append]
 simp
theorem keyed_take (l : List Sl) (j : Nat) (h : j < l.length) : keyed (l.take (j + 1)) = kstep (keyed (l.take j)) (l[j], j) := by
 rw [List.take_succ_eq_append_getElem h, keyed_snoc, List.length_take, Nat.min_eq_left (by omega)]
theorem fold_none (l : List (Sl × Nat)) : l.foldl kstep none = none := by
 induction l with
 | nil => rfl
 | cons a l ih => simpa [kstep] using ih
theorem keyed_none (l : List Sl) (j : Nat) (h : keyed (l.take j) = none) : keyed l = none := by
 have e : keyed l = ((l.drop j).zipIdx ((l.take j).length)).foldl kstep (keyed (l.take j)) := by
  have e2 : keyed (l.take j ++ l.drop j) = ((l.drop j).zipIdx ((l.take j).length)).foldl kstep (keyed (l.take j)) := by
   unfold keyed
   rw [List.zipIdx_append, List.foldl_append]
   simp only [Nat.zero_add]
  rw [List.take_append_drop] at e2
  exact e2
 rw [e, h, fold_none]
def Of (l : List Sl) (d : List (Int × Int)) : Prop := Dc.Srt d ∧ d.length ≤ l.length ∧ ∀ k n, (k, n) ∈ d ↔ ∃ i : Nat, n = (i : Int) ∧ l[i]? = some (true, k)
def Dir (l : List Sl) : Prop := (∀ s ∈ l, s.1 = false → s.2 = 0) ∧ ∀ (i j : Nat) (k : Int), l[i]? = some (true, k) → l[j]? = some (true, k) → i = j
theorem at_snoc (l : List Sl) (s : Sl) (i : Nat) (x : Sl) : (l ++ [s])[i]? = some x ↔ l[i]? = some x ∨ (i = l.length ∧ s = x) := by
 rw [List.getElem?_append]
 split
 ·
  rename_i h
  constructor
  · exact .inl
  ·
   rintro (h' | ⟨h', _⟩)
   · exact h'
   · omega
 ·
  rename_i h
  have h1 : l[i]? = none := List.getElem?_eq_none (by omega)
  rw [h1]
  constructor
  ·
   intro h'
   right
   have : i - l.length = 0 := by
    cases e : i - l.length with
    | zero => rfl
    | succ m => rw [e] at h'; simp at h'
   rw [this] at h'
   exact ⟨by omega, by simpa using h'⟩
  ·
   rintro (h' | ⟨rfl, rfl⟩)
   · cases h'
   · simp
theorem of_nil : Of [] [] := ⟨List.Pairwise.nil, Nat.le_refl _, fun k n => by simp⟩
theorem rev_ind {α : Type} {p : List α → Prop} (h0 : p []) (h1 : ∀ l a, p l → p (l ++ [a])) (l : List α) : p l := by
 have h : ∀ m : List α, p m.reverse := by
  intro m
  induction m with
  | nil => exact h0
  | cons a m ih => rw [List.reverse_cons]; exact h1 _ _ ih
 have := h l.reverse
 rwa [List.reverse_reverse] at this
theorem keyed_cases : ∀ (l : List Sl), (∃ d, keyed l = some d ∧ Of l d ∧ Dir l) ∨ (keyed l = none ∧ ¬ Dir l) := by
 intro l
 refine rev_ind (p := fun l => (∃ d, keyed l = some d ∧ Of l d ∧ Dir l) ∨ (keyed l = none ∧ ¬ Dir l)) ?_ ?_ l
 · exact .inl ⟨[], rfl, of_nil, ⟨by simp, by simp⟩⟩
 ·
  intro l s ih
  rw [keyed_snoc]
  rcases ih with ⟨d, h1, ⟨h2, h3, h4⟩, h5, h6⟩ | ⟨h1, h2⟩
  ·
   rw [h1]
   obtain ⟨u, k⟩ := s
   cases u with
   | false =>
    by_cases hk : k = 0
    ·
     subst hk
     left
     refine ⟨d, rfl, ⟨h2, by simp; omega, fun k n => ?_⟩, ?_, ?_⟩
     ·
      rw [h4]
      constructor
      · rintro ⟨i, e, h⟩; exact ⟨i, e, (at_snoc ..).2 (.inl h)⟩
      ·
       rintro ⟨i, e, h⟩
       rcases (at_snoc ..).1 h with h | ⟨_, h⟩
       · exact ⟨i, e, h⟩
       · simp at h
     ·
      intro s hs hu
      rcases List.mem_append.1 hs with hs | hs
      · exact h5 s hs hu
      · simp at hs; subst hs; rfl
     ·
      intro i j k hi hj
      rcases (at_snoc ..).1 hi with hi | ⟨_, hi⟩
      ·
       rcases (at_snoc ..).1 hj with hj | ⟨_, hj⟩
       · exact h6 i j k hi hj
       · simp at hj
      · simp at hi
    ·
     right
     refine ⟨by simp [kstep, hk], fun h => hk (h.1 (false, k) (by simp) rfl)⟩
   | true =>
    cases hg : Dc.get d k with
    | none =>
     left
     have hn := Dc.get_none.1 hg
     have hno : ∀ i : Nat, l[i]? ≠ some (true, k) := fun i h => hn (k, (i : Int)) ((h4 k i).2 ⟨i, rfl, h⟩) rfl
     refine ⟨Dc.put d k (l.length : Int), by simp [kstep, hg], ⟨Dc.srt_put h2 _ _, ?_, fun k' n => ?_⟩, ?_, ?_⟩
     · rw [Dc.len_put_new h2 _ _ hg]; simp; omega
     ·
      rw [Dc.mem_put]
      constructor
      ·
       rintro (h | ⟨h, h'⟩)
       ·
        simp at h
        exact ⟨l.length, h.2, (at_snoc ..).2 (.inr ⟨rfl, by rw [h.1]⟩)⟩
       ·
        obtain ⟨i, e, h⟩ := (h4 _ _).1 h
        exact ⟨i, e, (at_snoc ..).2 (.inl h)⟩
      ·
       rintro ⟨i, e, h⟩
       rcases (at_snoc ..).1 h with hh | ⟨h', h⟩
       ·
        right
        refine ⟨(h4 _ _).2 ⟨i, e, hh⟩, fun h' => ?_⟩
        simp at h'
        subst h'
        exact hno i hh
       ·
        left
        simp at h
        rw [e, h', h]
     ·
      intro s hs hu
      rcases List.mem_append.1 hs with hs | hs
      · exact h5 s hs hu
      · simp at hs; subst hs; cases hu
     ·
      intro i j k' hi hj
      rcases (at_snoc ..).1 hi with hi | ⟨hi', hi⟩
      ·
       rcases (at_snoc ..).1 hj with hj | ⟨hj', hj⟩
       · exact h6 i j k' hi hj
       · simp at hj; subst hj; exact absurd hi (hno i)
      ·
       rcases (at_snoc ..).1 hj with hj | ⟨hj', hj⟩
       · simp at hi; subst hi; exact absurd hj (hno j)
       · omega
    | some n =>
     right
     refine ⟨by simp [kstep, hg], fun h => ?_⟩
     obtain ⟨i, e, hi⟩ := (h4 k n).1 ((Dc.get_some h2).1 hg)
     have := h.2 i l.length k ((at_snoc ..).2 (.inl hi)) ((at_snoc ..).2 (.inr ⟨rfl, rfl⟩))
     have hl : i < l.length := (List.getElem?_eq_some_iff.1 hi).1
     omega
  ·
   right
   refine ⟨by rw [h1]; rfl, fun h => h2 ⟨fun s hs => h.1 s (List.mem_append_left _ hs), fun i j k hi hj => h.2 i j k ((at_snoc ..).2 (.inl hi)) ((at_snoc ..).2 (.inl hj))⟩⟩
end Vt

/- Directories: the first slot that is free, the slot of a key, adding and removing. -/
set_option linter.unusedVariables false
namespace Vt
def ff (l : List Sl) : Option Nat := l.findIdx? fun s => !s.1
theorem ff_here {l : List Sl} {j : Nat} (h : j < l.length) (h1 : ∀ i, (hi : i < j) → l[i].1 = true) (h2 : l[j].1 = false) : ff l = some j := by
 unfold ff
 rw [List.findIdx?_eq_some_iff_getElem]
 exact ⟨h, by simp [h2], fun i hi => by simp [h1 i hi]⟩
theorem ff_none {l : List Sl} (h1 : ∀ i, (hi : i < l.length) → l[i].1 = true) : ff l = none := by
 unfold ff
 rw [List.findIdx?_eq_none_iff]
 intro x hx
 obtain ⟨i, hi, rfl⟩ := List.getElem_of_mem hx
 simp [h1 i hi]
theorem ff_some {l : List Sl} {j : Nat} (h : ff l = some j) : ∃ h : j < l.length, l[j].1 = false ∧ ∀ i, (hi : i < j) → l[i].1 = true := by
 unfold ff at h
 rw [List.findIdx?_eq_some_iff_getElem] at h
 obtain ⟨h, h1, h2⟩ := h
 exact ⟨h, by simpa using h1, fun i hi => by simpa using h2 i hi⟩
def fn (l : List Sl) (k : Int) : Option Nat := l.findIdx? fun s => s.1 && s.2 == k
theorem fn_some {l : List Sl} {k : Int} {j : Nat} (h : fn l k = some j) : l[j]? = some (true, k) := by
 unfold fn at h
 rw [List.findIdx?_eq_some_iff_getElem] at h
 obtain ⟨h, h1, h2⟩ := h
 simp at h1
 rw [List.getElem?_eq_getElem h, ← h1.1, ← h1.2]
theorem fn_none' {l : List Sl} {k : Int} (h : fn l k = none) (i : Nat) : l[i]? ≠ some (true, k) := by
 intro hi
 unfold fn at h
 rw [List.findIdx?_eq_none_iff] at h
 have := h (true, k) (List.mem_of_getElem? hi)
 simp at this
theorem get_fn {l : List Sl} {d : List (Int × Int)} (h : Of l d) (hd : Dir l) (k : Int) : Dc.get d k = (fn l k).map fun i : Nat => (i : Int) := by
 obtain ⟨hs, _, hm⟩ := h
 cases hf : fn l k with
 | none =>
  rw [Option.map_none, Dc.get_none]
  rintro e he rfl
  obtain ⟨i, _, hi⟩ := (hm _ _).1 he
  exact fn_none' hf i hi
 | some j =>
  rw [Option.map_some, Dc.get_some hs, hm]
  exact ⟨j, rfl, fn_some hf⟩
def Ok (l : List Sl) : Prop := 1 ≤ l.length ∧ l.length ≤ 1024 ∧ Dir l
open Classical in
noncomputable def add (l : List Sl) (k : Int) : List Sl × Nat × Nat :=
 if Ok l then (if (fn l k).isSome then (l, 0, 4) else match ff l with | none => (l, 0, 10) | some v => (l.set v (true, k), v, 0)) else (l, 0, 1)
/-! ## Keys, one after the other -/
end Vt

namespace Pt

def g (p : List Int) (v : Int) : Int := p.getD v.toNat 0
def InR (n : Nat) (v : Int) : Prop := 0 ≤ v ∧ v < n
instance (n : Nat) (v : Int) : Decidable (InR n v) := by unfold InR; exact inferInstance
def Rt (p : List Int) : Prop := ∀ v : Int, InR p.length v → 0 ≤ g p v ∧ g p v ≤ v ∧ g p (g p v) = g p v
theorem g_map (f : Int → Int) (p : List Int) (v : Int) (h : InR p.length v) : g (p.map f) v = f (g p v) := by
 obtain ⟨h0, h1⟩ := h
 have hl : v.toNat < p.length := by omega
 simp [g, List.getD, hl]
theorem ext_g {p q : List Int} (hl : p.length = q.length) (h : ∀ v : Int, InR p.length v → g p v = g q v) : p = q := by
 apply List.ext_getElem hl
 intro i h1 h2
 have := h (i : Int) ⟨by omega, by omega⟩
 simpa [g, List.getD, h1, h2] using this
def joinL (p : List Int) (u v : Int) : List Int := p.map fun x => if x = max (g p u) (g p v) then min (g p u) (g p v) else x
theorem len_join (p : List Int) (u v : Int) : (joinL p u v).length = p.length := by simp [joinL]
theorem g_join (p : List Int) (u v x : Int) (h : InR p.length x) :
  g (joinL p u v) x = if g p x = max (g p u) (g p v) then min (g p u) (g p v) else g p x := by
 unfold joinL; rw [g_map _ _ _ h]
theorem Rt.inr {p : List Int} (h : Rt p) {v : Int} (hv : InR p.length v) : InR p.length (g p v) := by
 obtain ⟨a, b, _⟩ := h v hv
 obtain ⟨c, d⟩ := hv
 exact ⟨a, by omega⟩
theorem Rt.join {p : List Int} (h : Rt p) {u v : Int} (hu : InR p.length u) (hv : InR p.length v) : Rt (joinL p u v) := by
 intro x hx
 rw [len_join] at hx
 have hx' := h x hx
 have hu' := h u hu
 have hv' := h v hv
 have hxr := h.inr hx
 have hur := h.inr hu
 have hvr := h.inr hv
 have h1 : InR p.length (min (g p u) (g p v)) := by unfold InR at *; omega
 rw [g_join p u v x hx]
 have hmin : g p (min (g p u) (g p v)) = min (g p u) (g p v) := by
  by_cases hc : g p u ≤ g p v
  · rw [Int.min_eq_left hc]; exact hu'.2.2
  · rw [Int.min_eq_right (by omega)]; exact hv'.2.2
 by_cases hc : g p x = max (g p u) (g p v)
 ·
  simp only [hc, if_true]
  refine ⟨by omega, by omega, ?_⟩
  rw [g_join p u v _ h1, hmin]
  split <;> omega
 ·
  simp only [hc, if_false]
  refine ⟨by omega, by omega, ?_⟩
  rw [g_join p u v _ hxr, hx'.2.2]
  simp [hc]
theorem join_same {p : List Int} {u v x y : Int} (hx : InR p.length x) (hy : InR p.length y) (h : g p x = g p y) :
  g (joinL p u v) x = g (joinL p u v) y := by
 rw [g_join _ _ _ _ hx, g_join _ _ _ _ hy, h]
theorem join_made {p : List Int} {u v : Int} (hu : InR p.length u) (hv : InR p.length v) :
  g (joinL p u v) u = g (joinL p u v) v := by
 rw [g_join _ _ _ _ hu, g_join _ _ _ _ hv]
 split <;> split <;> omega
def idl (n : Nat) : List Int := (List.range n).map Int.ofNat
theorem len_idl (n : Nat) : (idl n).length = n := by simp [idl]
theorem g_idl {n : Nat} {v : Int} (h : InR n v) : g (idl n) v = v := by
 obtain ⟨a, b⟩ := h
 have : v.toNat < n := by omega
 simp [g, idl, List.getD, this]; omega
theorem Rt_idl (n : Nat) : Rt (idl n) := by
 intro v hv
 rw [len_idl] at hv
 rw [g_idl hv]
 exact ⟨hv.1, Int.le_refl _, g_idl hv⟩
def partOf (n : Nat) (l : List (Int × Int)) : List Int := l.foldl (fun p e => joinL p e.1 e.2) (idl n)
def MayL (n : Nat) (l : List (Int × Int)) : Prop := ∀ e ∈ l, InR n e.1 ∧ InR n e.2
theorem len_foldJoin (l : List (Int × Int)) (p : List Int) : (l.foldl (fun p e => joinL p e.1 e.2) p).length = p.length := by
 induction l generalizing p with
 | nil => rfl
 | cons e l ih => simp only [List.foldl_cons]; rw [ih, len_join]
theorem len_partOf (n : Nat) (l : List (Int × Int)) : (partOf n l).length = n := by
 unfold partOf; rw [len_foldJoin, len_idl]
theorem Rt_foldJoin (l : List (Int × Int)) (p : List Int) (hp : Rt p) (hl : MayL p.length l) : Rt (l.foldl (fun p e => joinL p e.1 e.2) p) := by
 induction l generalizing p with
 | nil => exact hp
 | cons e l ih =>
  simp only [List.foldl_cons]
  have he := hl e (by simp)
  refine ih _ (hp.join he.1 he.2) ?_
  rw [len_join]
  exact fun x hx => hl x (by simp [hx])
theorem Rt_partOf {n : Nat} {l : List (Int × Int)} (hl : MayL n l) : Rt (partOf n l) :=
 Rt_foldJoin l _ (Rt_idl n) (by rw [len_idl]; exact hl)
theorem univ_foldJoin {α : Type} (q : Int → α) (l : List (Int × Int)) (p : List Int) (hp : Rt p) (hl : MayL p.length l) (hq : ∀ e ∈ l, q e.1 = q e.2)
  (h0 : ∀ x, InR p.length x → q x = q (g p x)) : ∀ x, InR p.length x → q x = q (g (l.foldl (fun p e => joinL p e.1 e.2) p) x) := by
 induction l generalizing p with
 | nil => exact h0
 | cons e l ih =>
  simp only [List.foldl_cons]
  have he := hl e (by simp)
  have := ih (joinL p e.1 e.2) (hp.join he.1 he.2) (by rw [len_join]; exact fun x hx => hl x (by simp [hx])) (fun x hx => hq x (by simp [hx])) ?_
  · rw [len_join] at this; exact this
  ·
   rw [len_join]
   intro x hx
   rw [g_join _ _ _ _ hx]
   have e1 := h0 _ he.1
   have e2 := h0 _ he.2
   have e3 := hq e (by simp)
   by_cases hc : g p x = max (g p e.1) (g p e.2)
   ·
    simp only [hc, if_true]
    rw [h0 x hx, hc]
    by_cases hd : g p e.1 ≤ g p e.2
    · rw [Int.max_eq_right hd, Int.min_eq_left hd, ← e1, ← e2, e3]
    · rw [Int.max_eq_left (by omega), Int.min_eq_right (by omega), ← e1, ← e2, e3]
   · simp only [hc, if_false]; exact h0 x hx
theorem univ_partOf {α : Type} (q : Int → α) {n : Nat} {l : List (Int × Int)} (hl : MayL n l) (hq : ∀ e ∈ l, q e.1 = q e.2) :
  ∀ x, InR n x → q x = q (g (partOf n l) x) := by
 have := univ_foldJoin q l (idl n) (Rt_idl n) (by rw [len_idl]; exact hl) hq (fun x hx => by rw [len_idl] at hx; rw [g_idl hx])
 rwa [len_idl] at this
theorem fold_same (l : List (Int × Int)) (p : List Int) {x y : Int} (hx : InR p.length x) (hy : InR p.length y) (h : g p x = g p y) :
  g (l.foldl (fun p e => joinL p e.1 e.2) p) x = g (l.foldl (fun p e => joinL p e.1 e.2) p) y := by
 induction l generalizing p with
 | nil => exact h
 | cons e l ih =>
  simp only [List.foldl_cons]
  exact ih _ (by rw [len_join]; exact hx) (by rw [len_join]; exact hy) (join_same hx hy h)
theorem fold_made (l : List (Int × Int)) (p : List Int) (hl : MayL p.length l) : ∀ e ∈ l, g (l.foldl (fun p e => joinL p e.1 e.2) p) e.1 = g (l.foldl (fun p e => joinL p e.1 e.2) p) e.2 := by
 induction l generalizing p with
 | nil => intro e he; cases he
 | cons d l ih =>
  intro e he
  simp only [List.foldl_cons]
  have hd := hl d (by simp)
  rcases List.mem_cons.1 he with rfl | he'
  · exact fold_same l _ (by rw [len_join]; exact hd.1) (by rw [len_join]; exact hd.2) (join_made hd.1 hd.2)
  · exact ih _ (by rw [len_join]; exact fun x hx => hl x (by simp [hx])) e he'
theorem made_partOf {n : Nat} {l : List (Int × Int)} (hl : MayL n l) : ∀ e ∈ l, g (partOf n l) e.1 = g (partOf n l) e.2 :=
 fold_made l (idl n) (by rw [len_idl]; exact hl)
theorem partOf_unique {n : Nat} {l : List (Int × Int)} (hl : MayL n l) {q : List Int} (hlen : q.length = n) (hle : ∀ x, InR n x → InR n (g q x) ∧ g q x ≤ x)
  (hm : ∀ e ∈ l, g q e.1 = g q e.2) (hc : ∀ x, InR n x → g (partOf n l) (g q x) = g (partOf n l) x) : q = partOf n l := by
 refine ext_g (by rw [hlen, len_partOf]) fun x hx => ?_
 rw [hlen] at hx
 have hR := Rt_partOf hl
 have hx' : InR (partOf n l).length x := by rw [len_partOf]; exact hx
 have h1 := hR x hx'
 have h2 := hR.inr hx'
 rw [len_partOf] at h2
 have h3 := univ_partOf (g q) hl hm x hx
 have h4 := (hle _ h2).2
 have h5 := hR (g q x) (by rw [len_partOf]; exact (hle x hx).1)
 rw [hc x hx] at h5
 omega
/-! ## How many classes -/
def cnt (p : List Int) : Nat := (List.range p.length).countP fun v : Nat => decide (g p (v : Int) = (v : Int))
theorem countP_same {n : Nat} {f h : Nat → Bool} (e : ∀ i, i < n → f i = h i) : (List.range n).countP f = (List.range n).countP h := by
 induction n with
 | zero => rfl
 | succ n ih =>
  rw [List.range_succ, List.countP_append, List.countP_append, ih fun i hi => e i (by omega)]
  simp [List.countP_cons, e n (by omega)]
theorem countP_but {n m : Nat} (hm : m < n) {f h : Nat → Bool} (e : ∀ i, i < n → i ≠ m → f i = h i) (h1 : f m = true) (h2 : h m = false) :
  (List.range n).countP f = (List.range n).countP h + 1 := by
 induction n with
 | zero => omega
 | succ n ih =>
  rw [List.range_succ, List.countP_append, List.countP_append]
  by_cases hmn : m = n
  ·
   subst hmn
   rw [countP_same (f := f) (h := h) fun i hi => e i (by omega) (by omega)]
   simp [h1, h2]
  ·
   rw [ih (by omega) fun i hi hne => e i (by omega) hne]
   simp [List.countP_cons, e n (by omega) (by omega)]
   omega
theorem join_id {p : List Int} {u v : Int} (h : g p u = g p v) : joinL p u v = p := by
 unfold joinL
 rw [h]
 have : ∀ x : Int, (if x = max (g p v) (g p v) then min (g p v) (g p v) else x) = x := by
  intro x; split <;> omega
 simp only [this, List.map_id']
theorem cnt_join {p : List Int} (h : Rt p) {u v : Int} (hu : InR p.length u) (hv : InR p.length v) (hne : g p u ≠ g p v) : cnt p = cnt (joinL p u v) + 1 := by
 unfold cnt
 rw [len_join]
 have hu' := h u hu
 have hv' := h v hv
 have hur := h.inr hu
 have hvr := h.inr hv
 refine countP_but (m := (max (g p u) (g p v)).toNat) ?_ ?_ ?_ ?_
 · unfold InR at *; omega
 ·
  intro i hi hne'
  have hir : InR p.length (i : Int) := ⟨by omega, by omega⟩
  have hi' := h i hir
  rw [g_join _ _ _ _ hir]
  by_cases hc : g p (i : Int) = max (g p u) (g p v)
  ·
   simp only [hc, if_true]
   have : ¬ max (g p u) (g p v) = (i : Int) := by unfold InR at *; omega
   have h2 : ¬ min (g p u) (g p v) = (i : Int) := by unfold InR at *; omega
   simp [this, h2]
  · simp [hc]
 ·
  have e1 : ((max (g p u) (g p v)).toNat : Int) = max (g p u) (g p v) := by unfold InR at *; omega
  rw [e1]
  have : g p (max (g p u) (g p v)) = max (g p u) (g p v) := by
   by_cases hc : g p u ≤ g p v
   · rw [Int.max_eq_right hc]; exact hv'.2.2
   · rw [Int.max_eq_left (by omega)]; exact hu'.2.2
  simp [this]
 ·
  have e1 : ((max (g p u) (g p v)).toNat : Int) = max (g p u) (g p v) := by unfold InR at *; omega
  have e2 : InR p.length (max (g p u) (g p v)) := by unfold InR at *; omega
  rw [e1, g_join _ _ _ _ e2]
  have : g p (max (g p u) (g p v)) = max (g p u) (g p v) := by
   by_cases hc : g p u ≤ g p v
   · rw [Int.max_eq_right hc]; exact hv'.2.2
   · rw [Int.max_eq_left (by omega)]; exact hu'.2.2
  simp [this]
  omega
/-! ## What the functions answer -/
def placeB (n v : Int) : Bool := decide (0 ≤ v) && decide (v < n)
def okAt (p : List Int) (v : Nat) : Bool := placeB p.length (g p v) && decide (g p v ≤ (v : Int)) && decide (g p (g p v) = g p v)
def rightB (p : List Int) : Bool := (List.range p.length).all (okAt p)
theorem rightB_iff (p : List Int) : rightB p = true ↔ Rt p := by
 unfold rightB Rt okAt placeB
 rw [List.all_eq_true]
 constructor
 ·
  intro h v hv
  have := h v.toNat (by simp; unfold InR at hv; omega)
  have e : ((v.toNat : Nat) : Int) = v := by unfold InR at hv; omega
  rw [e] at this
  simp at this
  omega
 ·
  intro h v hv
  have hv' : v < p.length := by simpa using hv
  have h1 : InR p.length (v : Int) := ⟨by omega, by omega⟩
  have := h (v : Int) h1
  have h2 := (Rt.inr h h1)
  unfold InR at h2
  simp
  omega
def manyZ (p : List Int) : Nat := if rightB p then cnt p else 0
def classL (p : List Int) (v : Int) : List Int := if rightB p && placeB p.length v then ((List.range p.length).filter fun i : Nat => decide (g p (i : Int) = g p v)).map Int.ofNat else []
theorem placeB_iff (n : Nat) (v : Int) : placeB n v = true ↔ InR n v := by simp [placeB, InR]
/-! ## Ways upwards (union and find) -/
theorem g_set (p : List Int) (i : Nat) (y x : Int) (h : InR p.length x) : g (p.set i y) x = if x.toNat = i then y else g p x := by
 obtain ⟨h0, h1⟩ := h
 have hl : x.toNat < p.length := by omega
 by_cases hi : x.toNat = i
 ·
  subst hi
  simp [g, List.getD, hl]
 · simp [g, List.getD, hi, Ne.symm hi]
def Uf (zs P : List Int) : Prop :=
 zs.length = P.length ∧ ∀ x, InR P.length x → 0 ≤ g zs x ∧ g zs x ≤ x ∧ g P (g zs x) = g P x ∧ (g zs x = x → g P x = x)
theorem Uf_id (n : Nat) : Uf (idl n) (idl n) := by
 refine ⟨rfl, fun x hx => ?_⟩
 rw [len_idl] at hx
 rw [g_idl hx]
 exact ⟨hx.1, Int.le_refl _, g_idl hx, fun _ => rfl⟩
theorem Uf.inr {zs P : List Int} (h : Uf zs P) {v : Int} (hv : InR P.length v) : InR P.length (g zs v) := by
 obtain ⟨a, b, _⟩ := h.2 v hv
 unfold InR at *; omega
theorem Uf.short {zs P : List Int} (h : Uf zs P) {v : Int} (hv : InR P.length v) : Uf (zs.set v.toNat (g zs (g zs v))) P := by
 refine ⟨by simp [h.1], fun x hx => ?_⟩
 have hr := h.inr hv
 have h1 := h.2 v hv
 have h2 := h.2 _ hr
 have h3 := h.2 x hx
 rw [g_set _ _ _ _ (by rw [h.1]; exact hx)]
 by_cases hc : x.toNat = v.toNat
 ·
  have hxv : x = v := by unfold InR at *; omega
  subst hxv
  simp only [if_true]
  refine ⟨h2.1, by omega, by rw [h2.2.2.1, h1.2.2.1], fun he => ?_⟩
  exact h1.2.2.2 (by omega)
 ·
  simp only [hc, if_false]
  exact h3
theorem Uf.union {zs P : List Int} (h : Uf zs P) (hP : Rt P) {u v : Int} (hu : InR P.length u) (hv : InR P.length v) :
  Uf (zs.set (max (g P u) (g P v)).toNat (min (g P u) (g P v))) (joinL P u v) := by
 have hu' := hP u hu
 have hv' := hP v hv
 have hur := hP.inr hu
 have hvr := hP.inr hv
 refine ⟨by simp [h.1, len_join], fun x hx => ?_⟩
 rw [len_join] at hx
 have h3 := h.2 x hx
 rw [g_set _ _ _ _ (by rw [h.1]; exact hx)]
 have hmin : g P (min (g P u) (g P v)) = min (g P u) (g P v) := by
  by_cases hc : g P u ≤ g P v
  · rw [Int.min_eq_left hc]; exact hu'.2.2
  · rw [Int.min_eq_right (by omega)]; exact hv'.2.2
 have hmax : g P (max (g P u) (g P v)) = max (g P u) (g P v) := by
  by_cases hc : g P u ≤ g P v
  · rw [Int.max_eq_right hc]; exact hv'.2.2
  · rw [Int.max_eq_left (by omega)]; exact hu'.2.2
 have hminr : InR P.length (min (g P u) (g P v)) := by unfold InR at *; omega
 by_cases hc : x.toNat = (max (g P u) (g P v)).toNat
 ·
  have hxv : x = max (g P u) (g P v) := by unfold InR at *; omega
  subst hxv
  simp only [if_true]
  refine ⟨by unfold InR at *; omega, by omega, ?_, fun he => ?_⟩
  ·
   rw [g_join _ _ _ _ hminr, g_join _ _ _ _ hx, hmin, hmax]
   simp
  · rw [g_join _ _ _ _ hx, hmax]; simp; omega
 ·
  simp only [hc, if_false]
  refine ⟨h3.1, h3.2.1, ?_, fun he => ?_⟩
  · rw [g_join _ _ _ _ (h.inr hx), g_join _ _ _ _ hx, h3.2.2.1]
  ·
   rw [g_join _ _ _ _ hx, h3.2.2.2 he]
   rw [if_neg]
   intro h; exact hc (by rw [h])
def Flat (zs P : List Int) (k : Nat) : Prop := Uf zs P ∧ ∀ x, InR P.length x → x < k → g zs x = g P x
theorem Uf.flat {zs P : List Int} (h : Uf zs P) : Flat zs P 0 := ⟨h, fun x hx hk => by unfold InR at hx; omega⟩
theorem Flat.step {zs P : List Int} {k : Nat} (h : Flat zs P k) (hk : k < P.length) : Flat (zs.set k (g zs (g zs (k : Int)))) P (k + 1) := by
 have hkr : InR P.length (k : Int) := ⟨by omega, by omega⟩
 have hs := h.1.short hkr
 simp only [Int.toNat_natCast] at hs
 refine ⟨hs, fun x hx hlt => ?_⟩
 rw [g_set _ _ _ _ (by rw [h.1.1]; exact hx)]
 have hk' := h.1.2 _ hkr
 by_cases hc : x.toNat = k
 ·
  have hxk : x = (k : Int) := by unfold InR at hx; omega
  subst hxk
  simp only [hc, if_true]
  by_cases he : g zs (k : Int) = (k : Int)
  · rw [he, he, hk'.2.2.2 he]
  · rw [h.2 _ (h.1.inr hkr) (by omega), hk'.2.2.1]
 ·
  simp only [hc, if_false]
  exact h.2 x hx (by unfold InR at hx; omega)
theorem Flat.done {zs P : List Int} (h : Flat zs P P.length) : zs = P := by
 refine ext_g h.1.1 fun x hx => h.2 x (by rw [← h.1.1]; exact hx) ?_
 rw [h.1.1] at hx; exact hx.2
def fillI (n k : Nat) : List Int := (List.range n).map fun i : Nat => if i < k then (i : Int) else 0
theorem fillI_zero (n : Nat) : fillI n 0 = List.replicate n 0 := by
 apply List.ext_getElem
 · simp [fillI]
 · intro i h1 h2; simp [fillI]
theorem fillI_all (n : Nat) : fillI n n = idl n := by
 apply List.ext_getElem
 · simp [fillI, idl]
 ·
  intro i h1 h2
  simp [fillI] at h1
  simp [fillI, idl, h1]
theorem fillI_set (n k : Nat) : (fillI n k).set k (k : Int) = fillI n (k + 1) := by
 apply List.ext_getElem
 · simp [fillI]
 ·
  intro i h1 h2
  simp only [List.getElem_set, fillI, List.getElem_map, List.getElem_range]
  by_cases h : k = i
  · subst h; simp
  ·
   simp only [h, if_false]
   by_cases h3 : i < k
   · rw [if_pos h3, if_pos (by omega)]
   · rw [if_neg h3, if_neg (by omega)]
theorem len_fillI (n k : Nat) : (fillI n k).length = n := by simp [fillI]
/-! ## Loops, as far as they have come -/
def cntK (p : List Int) (k : Nat) : Nat := (List.range k).countP fun v : Nat => decide (g p (v : Int) = (v : Int))
theorem cntK_le (p : List Int) (k : Nat) : cntK p k ≤ k := by
 have := List.countP_le_length (p := fun v : Nat => decide (g p (v : Int) = (v : Int))) (l := List.range k)
 simpa [cntK] using this
theorem cntK_step (p : List Int) (k : Nat) : cntK p (k + 1) = cntK p k + if g p (k : Int) = (k : Int) then 1 else 0 := by
 simp only [cntK, List.range_succ, List.countP_append]
 by_cases h : g p (k : Int) = (k : Int) <;> simp [h]
theorem cntK_all (p : List Int) : cntK p p.length = cnt p := rfl
def clK (p : List Int) (v : Int) (k : Nat) : List Int := ((List.range k).filter fun i : Nat => decide (g p (i : Int) = g p v)).map Int.ofNat
theorem clK_le (p : List Int) (v : Int) (k : Nat) : (clK p v k).length ≤ k := by
 have := List.length_filter_le (fun i : Nat => decide (g p (i : Int) = g p v)) (List.range k)
 simpa [clK] using this
theorem clK_step (p : List Int) (v : Int) (k : Nat) : clK p v (k + 1) = clK p v k ++ if g p (k : Int) = g p v then [(k : Int)] else [] := by
 simp only [clK, List.range_succ, List.filter_append, List.map_append]
 by_cases h : g p (k : Int) = g p v <;> simp [h]
/-! ## Edges -/
abbrev Ed := Int × Int × Int
def uv (l : List Ed) : List (Int × Int) := l.map fun e => (e.1, e.2.1)
def edB (n : Int) (e : Ed) : Bool := placeB n e.1 && placeB n e.2.1
def mayB (n : Int) (l : List Ed) : Bool := l.all (edB n)
theorem mayB_iff (n : Nat) (l : List Ed) : mayB n l = true ↔ MayL n (uv l) := by
 unfold mayB MayL uv edB
 simp only [List.all_eq_true, Bool.and_eq_true, placeB_iff, List.mem_map]
 exact ⟨fun h e ⟨x, hx, he⟩ => by subst he; exact h x hx, fun h x hx => h _ ⟨x, hx, rfl⟩⟩
theorem uv_take (l : List Ed) (k : Nat) : uv (l.take k) = (uv l).take k := by simp [uv, List.map_take]
theorem take_one {α : Type} (l : List α) {k : Nat} (h : k < l.length) : l.take (k + 1) = l.take k ++ [l[k]] := List.take_succ_eq_append_getElem h
theorem partOf_snoc (n : Nat) (l : List (Int × Int)) (e : Int × Int) : partOf n (l ++ [e]) = joinL (partOf n l) e.1 e.2 := by simp [partOf, List.foldl_append]
theorem MayL.take {n : Nat} {l : List (Int × Int)} (h : MayL n l) (k : Nat) : MayL n (l.take k) := fun e he => h e (List.mem_of_mem_take he)
/-! ## The document's own way: lesser ones are handed on till nothing changes -/
def LI (n : Nat) (P q : List Int) : Prop := q.length = n ∧ ∀ x, InR n x → 0 ≤ g q x ∧ g q x ≤ x ∧ g P (g q x) = g P x
def sumI : List Int → Nat
 | [] => 0
 | a :: l => a.toNat + sumI l
theorem sumI_set (l : List Int) (i : Nat) (y : Int) (h : i < l.length) (hy : y.toNat < (l.getD i 0).toNat) : sumI (l.set i y) < sumI l := by
 induction l generalizing i with
 | nil => simp at h
 | cons a l ih =>
  cases i with
  | zero => simp [sumI] at hy ⊢; omega
  | succ i =>
   have := ih i (by simpa using h) (by simpa using hy)
   simp [sumI]; omega
theorem LI.step {n : Nat} {P q : List Int} (h : LI n P q) {u v : Int} (hu : InR n u) (hv : InR n v) (huv : g P u = g P v) (hlt : g q u < g q v) :
  LI n P (q.set v.toNat (g q u)) ∧ sumI (q.set v.toNat (g q u)) < sumI q := by
 have h1 := h.2 u hu
 have h2 := h.2 v hv
 refine ⟨⟨by simp [h.1], fun x hx => ?_⟩, sumI_set _ _ _ (by rw [h.1]; unfold InR at hv; omega) ?_⟩
 ·
  rw [g_set _ _ _ _ (by rw [h.1]; exact hx)]
  by_cases hc : x.toNat = v.toNat
  ·
   have hxv : x = v := by unfold InR at *; omega
   subst hxv
   simp only [if_true]
   exact ⟨h1.1, by omega, by rw [h1.2.2, huv]⟩
  · simp only [hc, if_false]; exact h.2 x hx
 ·
  show (g q u).toNat < (g q v).toNat
  omega
end Pt

/- Forests: edges of which each makes two classes one. Plain mathematics, no program in sight. -/
namespace Pt
set_option linter.unusedVariables false

abbrev PE := Int × Int
def Cn (n : Nat) (l : List PE) (x y : Int) : Prop := g (partOf n l) x = g (partOf n l) y
theorem Cn.univ {α : Type} (q : Int → α) {n : Nat} {l : List PE} (hl : MayL n l) (hq : ∀ e ∈ l, q e.1 = q e.2) {x y : Int} (hx : InR n x) (hy : InR n y) (h : Cn n l x y) : q x = q y := by
 rw [univ_partOf q hl hq x hx, univ_partOf q hl hq y hy]
 unfold Cn at h; rw [h]
theorem Cn.edge {n : Nat} {l : List PE} (hl : MayL n l) {e : PE} (he : e ∈ l) : Cn n l e.1 e.2 := made_partOf hl e he
theorem partOf_ext {n : Nat} {l m : List PE} (hl : MayL n l) (hm : MayL n m) (h1 : ∀ e ∈ l, Cn n m e.1 e.2) (h2 : ∀ e ∈ m, Cn n l e.1 e.2) : partOf n m = partOf n l := by
 have hR := Rt_partOf hm
 refine partOf_unique hl (len_partOf n m) (fun x hx => ?_) h1 (fun x hx => ?_)
 ·
  have hx' : InR (partOf n m).length x := by rw [len_partOf]; exact hx
  have := hR x hx'
  have h3 := hR.inr hx'
  rw [len_partOf] at h3
  exact ⟨h3, this.2.1⟩
 · exact (univ_partOf (g (partOf n l)) hm h2 x hx).symm
theorem MayL.sub {n : Nat} {l m : List PE} (h : MayL n l) (hs : ∀ e ∈ m, e ∈ l) : MayL n m := fun e he => h e (hs e he)
theorem cnt_idl (n : Nat) : cnt (idl n) = n := by
 unfold cnt
 rw [len_idl, countP_same (h := fun _ => true)]
 · simp
 ·
  intro i hi
  simp [g_idl (n := n) (v := (i : Int)) ⟨by omega, by omega⟩]
theorem snoc_ind {α : Type} {P : List α → Prop} (h0 : P []) (h1 : ∀ l a, P l → P (l ++ [a])) : ∀ l, P l := by
 intro l
 have : ∀ m : List α, P m.reverse := by
  intro m
  induction m with
  | nil => exact h0
  | cons a m ih => rw [List.reverse_cons]; exact h1 _ _ ih
 have := this l.reverse
 rwa [List.reverse_reverse] at this
theorem MayL.init {n : Nat} {l : List PE} {e : PE} (h : MayL n (l ++ [e])) : MayL n l ∧ InR n e.1 ∧ InR n e.2 :=
 ⟨fun x hx => h x (by simp [hx]), h e (by simp)⟩
theorem cnt_ge {n : Nat} : ∀ l : List PE, MayL n l → n ≤ cnt (partOf n l) + l.length := by
 refine snoc_ind ?_ ?_
 · intro _; show n ≤ cnt (idl n) + 0; rw [cnt_idl]; exact Nat.le_refl _
 ·
  intro l e ih h
  obtain ⟨hl, h1, h2⟩ := h.init
  have := ih hl
  rw [partOf_snoc]
  by_cases hc : g (partOf n l) e.1 = g (partOf n l) e.2
  · rw [join_id hc]; simp; omega
  ·
   have := cnt_join (Rt_partOf hl) (u := e.1) (v := e.2) (by rw [len_partOf]; exact h1) (by rw [len_partOf]; exact h2) hc
   simp; omega
def Fst (n : Nat) (l : List PE) : Prop := MayL n l ∧ cnt (partOf n l) + l.length = n
theorem Fst.init {n : Nat} {l : List PE} {e : PE} (h : Fst n (l ++ [e])) : Fst n l ∧ ¬ Cn n l e.1 e.2 := by
 obtain ⟨hm, hc⟩ := h
 obtain ⟨hl, h1, h2⟩ := hm.init
 have hge := cnt_ge l hl
 rw [partOf_snoc] at hc
 by_cases he : g (partOf n l) e.1 = g (partOf n l) e.2
 · rw [join_id he] at hc; simp at hc; omega
 ·
  have := cnt_join (Rt_partOf hl) (u := e.1) (v := e.2) (by rw [len_partOf]; exact h1) (by rw [len_partOf]; exact h2) he
  simp at hc
  exact ⟨⟨hl, by omega⟩, he⟩
theorem Fst.snoc {n : Nat} {l : List PE} {e : PE} (h : Fst n l) (h1 : InR n e.1) (h2 : InR n e.2) (he : ¬ Cn n l e.1 e.2) : Fst n (l ++ [e]) := by
 have := cnt_join (Rt_partOf h.1) (u := e.1) (v := e.2) (by rw [len_partOf]; exact h1) (by rw [len_partOf]; exact h2) he
 refine ⟨fun x hx => ?_, ?_⟩
 ·
  rcases List.mem_append.1 hx with hx | hx
  · exact h.1 x hx
  · simp at hx; subst hx; exact ⟨h1, h2⟩
 · rw [partOf_snoc]; have := h.2; simp; omega
theorem partOf_same {n : Nat} {l m : List PE} (hl : MayL n l) (h : ∀ e, e ∈ l ↔ e ∈ m) : partOf n m = partOf n l := by
 have hm : MayL n m := hl.sub fun e he => (h e).2 he
 exact partOf_ext hl hm (fun e he => Cn.edge hm ((h e).1 he)) (fun e he => Cn.edge hl ((h e).2 he))
theorem mem_erase {α : Type} {l : List α} {i : Nat} {a : α} (h : a ∈ l.eraseIdx i) : a ∈ l := List.mem_of_mem_eraseIdx h
theorem erase_mem {α : Type} {l : List α} {i j : Nat} {a : α} (h : l[j]? = some a) (hne : j ≠ i) : a ∈ l.eraseIdx i :=
 List.mem_eraseIdx_iff_getElem?.2 ⟨j, hne, h⟩
theorem mem_erase_iff {α : Type} {l : List α} {i : Nat} {a : α} (h : l[i]? = some a) (b : α) : b ∈ l ↔ b ∈ l.eraseIdx i ++ [a] := by
 constructor
 ·
  intro hb
  obtain ⟨j, hj⟩ := List.mem_iff_getElem?.1 hb
  by_cases e : j = i
  · subst e; rw [h] at hj; injection hj with hj; simp [hj]
  · exact List.mem_append_left _ (erase_mem hj e)
 ·
  intro hb
  rcases List.mem_append.1 hb with hb | hb
  · exact mem_erase hb
  · simp at hb; subst hb; exact List.mem_of_getElem? h
theorem len_erase {α : Type} {l : List α} {i : Nat} {a : α} (h : l[i]? = some a) : (l.eraseIdx i).length + 1 = l.length := by
 obtain ⟨hi, _⟩ := List.getElem?_eq_some_iff.1 h
 rw [List.length_eraseIdx_of_lt hi]; omega
theorem Fst.bridge {n : Nat} {l : List PE} (h : Fst n l) {i : Nat} {e : PE} (hi : l[i]? = some e) : Fst n (l.eraseIdx i) ∧ ¬ Cn n (l.eraseIdx i) e.1 e.2 := by
 have hp := partOf_same h.1 (mem_erase_iff hi)
 refine Fst.init ⟨h.1.sub fun x hx => (mem_erase_iff hi x).2 hx, ?_⟩
 rw [hp]
 have := h.2
 have := len_erase hi
 simp; omega
theorem Fst.inj {n : Nat} {l : List PE} (h : Fst n l) {i j : Nat} {e : PE} (hi : l[i]? = some e) (hj : l[j]? = some e) : i = j := by
 by_cases hne : j = i
 · exact hne.symm
 · exact absurd (Cn.edge (h.bridge hi).1.1 (erase_mem hj hne)) (h.bridge hi).2
theorem Fst.noloop {n : Nat} {l : List PE} (h : Fst n l) {i : Nat} {e : PE} (hi : l[i]? = some e) : e.1 ≠ e.2 := fun he => (h.bridge hi).2 (by unfold Cn; rw [he])
/-! ## Ways -/
def oth (e : PE) (u : Int) : Int := if e.1 = u then e.2 else e.1
theorem oth_in {n : Nat} {e : PE} (h : InR n e.1 ∧ InR n e.2) (u : Int) : InR n (oth e u) := by
 unfold oth; split
 · exact h.2
 · exact h.1
theorem oth_cases {e : PE} {u : Int} (h : e.1 = u ∨ e.2 = u) : (e.1 = u ∧ e.2 = oth e u) ∨ (e.2 = u ∧ e.1 = oth e u) := by
 unfold oth
 by_cases h1 : e.1 = u
 · exact .inl ⟨h1, by rw [if_pos h1]⟩
 · rw [if_neg h1]; exact .inr ⟨h.resolve_left h1, rfl⟩
theorem oth_end {e : PE} {u : Int} (h : e.1 = u ∨ e.2 = u) : e.1 = oth e u ∨ e.2 = oth e u := by
 rcases oth_cases h with ⟨_, h⟩ | ⟨_, h⟩ <;> simp [h]
theorem oth_oth {e : PE} {u : Int} (h : e.1 = u ∨ e.2 = u) : oth e (oth e u) = u := by
 unfold oth
 by_cases h1 : e.1 = u
 ·
  rw [if_pos h1]; split
  · omega
  · exact h1
 · rw [if_neg h1, if_pos rfl]; exact h.resolve_left h1
theorem oth_eq {α : Type} (q : Int → α) {e : PE} {u : Int} (h : e.1 = u ∨ e.2 = u) : q e.1 = q e.2 ↔ q u = q (oth e u) := by
 rcases oth_cases h with ⟨h1, h2⟩ | ⟨h1, h2⟩
 · rw [h1, h2]
 · rw [h1, h2]; exact eq_comm
def Tr (l : List PE) : Int → List Nat → Int → Prop
 | u, [], v => u = v
 | u, i :: is, v => ∃ e, l[i]? = some e ∧ (e.1 = u ∨ e.2 = u) ∧ Tr l (oth e u) is v
def Vs (l : List PE) : Int → List Nat → List Int
 | u, [] => [u]
 | u, i :: is => u :: match l[i]? with | some e => Vs l (oth e u) is | none => []
def Sm (l : List PE) (u : Int) (p : List Nat) (v : Int) : Prop := Tr l u p v ∧ (Vs l u p).Nodup
theorem Vs_head (l : List PE) (u : Int) (p : List Nat) : ∃ t, Vs l u p = u :: t := by
 cases p with
 | nil => exact ⟨_, rfl⟩
 | cons i p => exact ⟨_, rfl⟩
theorem Vs_mem (l : List PE) (u : Int) (p : List Nat) : u ∈ Vs l u p := by obtain ⟨t, h⟩ := Vs_head l u p; rw [h]; simp
theorem Tr.last {l : List PE} {v : Int} : ∀ {p : List Nat} {u : Int}, Tr l u p v → v ∈ Vs l u p
 | [], u, h => by simp [Tr] at h; simp [Vs, h]
 | i :: is, u, h => by
  obtain ⟨e, he, _, ht⟩ := h
  simp only [Vs, he]
  exact List.mem_cons_of_mem _ ht.last
theorem Tr.len {l : List PE} {v : Int} : ∀ {p : List Nat} {u : Int}, Tr l u p v → (Vs l u p).length = p.length + 1
 | [], u, h => rfl
 | i :: is, u, h => by
  obtain ⟨e, he, _, ht⟩ := h
  simp only [Vs, he, List.length_cons, ht.len]
theorem Tr.ends {l : List PE} {v : Int} : ∀ {p : List Nat} {u : Int}, Tr l u p v → ∀ (i : Nat) (e : PE), i ∈ p → l[i]? = some e → e.1 ∈ Vs l u p ∧ e.2 ∈ Vs l u p
 | [], u, h => fun i e hi => by simp at hi
 | j :: is, u, h => by
  intro i e hi he
  obtain ⟨d, hd, hu, ht⟩ := h
  simp only [Vs, hd]
  rcases List.mem_cons.1 hi with rfl | hi
  ·
   rw [he] at hd; injection hd with hd; subst hd
   have hm := Vs_mem l (oth e u) is
   rcases oth_cases hu with ⟨h1, h2⟩ | ⟨h1, h2⟩
   · exact ⟨by rw [h1]; simp, by rw [h2]; exact List.mem_cons_of_mem _ hm⟩
   · exact ⟨by rw [h2]; exact List.mem_cons_of_mem _ hm, by rw [h1]; simp⟩
  ·
   have := ht.ends _ _ hi he
   exact ⟨List.mem_cons_of_mem _ this.1, List.mem_cons_of_mem _ this.2⟩
theorem Tr.inr {n : Nat} {l : List PE} (hl : MayL n l) {v : Int} : ∀ {p : List Nat} {u : Int}, InR n u → Tr l u p v → ∀ x ∈ Vs l u p, InR n x
 | [], u, hu, h => fun x hx => by simp [Vs] at hx; subst hx; exact hu
 | j :: is, u, hu, h => by
  obtain ⟨d, hd, _, ht⟩ := h
  intro x hx
  simp only [Vs, hd, List.mem_cons] at hx
  rcases hx with rfl | hx
  · exact hu
  · exact Tr.inr hl (oth_in (hl d (List.mem_of_getElem? hd)) u) ht x hx
theorem Tr.univ {α : Type} (q : Int → α) {l : List PE} {v : Int} : ∀ {p : List Nat} {u : Int}, Tr l u p v → (∀ i ∈ p, ∀ e, l[i]? = some e → q e.1 = q e.2) → q u = q v
 | [], u, h, _ => by simp [Tr] at h; rw [h]
 | j :: is, u, h, hq => by
  obtain ⟨d, hd, hu, ht⟩ := h
  rw [(oth_eq q hu).1 (hq j (by simp) d hd)]
  exact ht.univ q fun i hi e he => hq i (by simp [hi]) e he
theorem Tr.cn {n : Nat} {l : List PE} (hl : MayL n l) {v : Int} {p : List Nat} {u : Int} (h : Tr l u p v) : Cn n l u v :=
 h.univ (g (partOf n l)) fun i _ e he => Cn.edge hl (List.mem_of_getElem? he)
theorem Tr.cn_but {n : Nat} {l : List PE} (hl : MayL n l) {v : Int} {p : List Nat} {u : Int} (h : Tr l u p v) {i : Nat} (hi : i ∉ p) : Cn n (l.eraseIdx i) u v :=
 h.univ (g (partOf n (l.eraseIdx i))) fun j hj e he => Cn.edge (hl.sub fun _ h => mem_erase h) (erase_mem he fun e => hi (e ▸ hj))
theorem Sm.tail {l : List PE} {u v : Int} {i : Nat} {p : List Nat} (h : Sm l u (i :: p) v) : ∃ e, l[i]? = some e ∧ (e.1 = u ∨ e.2 = u) ∧ Sm l (oth e u) p v ∧ u ∉ Vs l (oth e u) p ∧ i ∉ p := by
 obtain ⟨⟨e, he, hu, ht⟩, hn⟩ := h
 simp only [Vs, he, List.nodup_cons] at hn
 refine ⟨e, he, hu, ⟨ht, hn.2⟩, hn.1, fun hi => hn.1 ?_⟩
 have := ht.ends _ _ hi he
 generalize Vs l (oth e u) p = L at this ⊢
 rcases hu with h | h
 · rw [← h]; exact this.1
 · rw [← h]; exact this.2
/-! ## The way back -/
theorem nodup_lt : ∀ (n : Nat) (vs : List Nat), vs.Nodup → (∀ x ∈ vs, x < n) → vs.length ≤ n
 | 0, vs, _, h => by
  cases vs with
  | nil => simp
  | cons a l => exact absurd (h a (by simp)) (by omega)
 | n + 1, vs, hn, h => by
  by_cases hm : n ∈ vs
  ·
   have h1 := nodup_lt n (vs.erase n) (hn.erase n) (fun x hx => by
    have h2 := h x (List.mem_of_mem_erase hx)
    have h3 : x ≠ n := fun e => by subst e; exact absurd hx (hn.not_mem_erase)
    omega)
   rw [List.length_erase_of_mem hm] at h1
   omega
  ·
   have h1 := nodup_lt n vs hn (fun x hx => by
    have h2 := h x hx
    have h3 : x ≠ n := fun e => hm (e ▸ hx)
    omega)
   omega
theorem Nodup_inR {n : Nat} {vs : List Int} (hn : vs.Nodup) (hr : ∀ x ∈ vs, InR n x) : vs.length ≤ n := by
 have h1 : (vs.map Int.toNat).Nodup := by
  rw [List.Nodup, List.pairwise_map]
  refine (List.Pairwise.imp_of_mem ?_ hn)
  intro a b ha hb hab he
  have := hr a ha; have := hr b hb
  unfold InR at *
  exact hab (by omega)
 have h2 : (vs.map Int.toNat) ⊆ List.range n := by
  intro y hy
  obtain ⟨x, hx, rfl⟩ := List.mem_map.1 hy
  have := hr x hx
  unfold InR at this
  simp; omega
 have := nodup_lt n _ h1 (fun x hx => by simpa using h2 hx)
 simpa using this
theorem Sm.short {n : Nat} {l : List PE} (hl : MayL n l) {u v : Int} {p : List Nat} (hu : InR n u) (h : Sm l u p v) : p.length < n := by
 have h1 := h.1.len
 have h2 := Nodup_inR h.2 (h.1.inr hl hu)
 omega
/-! ## Swaps -/
theorem Tr.split_ {l : List PE} {v : Int} : ∀ (p : List Nat) (u : Int) (k : Nat), Tr l u p v → ∀ hk : k < p.length, ∃ e x, l[p[k]]? = some e ∧ (e.1 = x ∨ e.2 = x) ∧ Tr l u (p.take k) x ∧ Tr l (oth e x) (p.drop (k + 1)) v ∧ Vs l u p = Vs l u (p.take k) ++ Vs l (oth e x) (p.drop (k + 1))
 | [], u, k, h => fun hk => absurd hk (by simp)
 | j :: p, u, 0, h => fun hk => by
  obtain ⟨d, hd, hu, ht⟩ := h
  exact ⟨d, u, hd, hu, rfl, ht, by simp [Vs, hd]⟩
 | j :: p, u, k + 1, h => fun hk => by
  obtain ⟨d, hd, hu, ht⟩ := h
  obtain ⟨e, x, h1, h2, h3, h4, h5⟩ := Tr.split_ p _ k ht (by simpa using hk)
  refine ⟨e, x, by simpa using h1, h2, ⟨d, hd, hu, h3⟩, by simpa using h4, ?_⟩
  simp only [Vs, hd, List.take_succ_cons, List.drop_succ_cons, h5, List.cons_append]
theorem Fst.cut {n : Nat} {l : List PE} (hf : Fst n l) {u v : Int} {p : List Nat} (h : Sm l u p v) {k : Nat} (hk : k < p.length) :
  ∃ e x, l[p[k]]? = some e ∧ (e.1 = x ∨ e.2 = x) ∧ Cn n (l.eraseIdx p[k]) u x ∧ Cn n (l.eraseIdx p[k]) (oth e x) v ∧ ¬ Cn n (l.eraseIdx p[k]) u v := by
 obtain ⟨e, x, he, hx, h1, h2, h3⟩ := Tr.split_ _ _ _ h.1 hk
 have hn := h.2
 rw [h3, List.nodup_append] at hn
 obtain ⟨_, _, hd⟩ := hn
 have hb := hf.bridge he
 have hm1 := h1.last
 have hm2 := Vs_mem l (oth e x) (p.drop (k + 1))
 have n1 : p[k] ∉ p.take k := fun hi => by
  have := h1.ends _ _ hi he
  rcases oth_cases hx with ⟨a, b⟩ | ⟨a, b⟩
  · exact hd _ this.2 _ hm2 (by rw [b])
  · exact hd _ this.1 _ hm2 (by rw [b])
 have n2 : p[k] ∉ p.drop (k + 1) := fun hi => by
  have := h2.ends _ _ hi he
  rcases oth_cases hx with ⟨a, b⟩ | ⟨a, b⟩
  · exact hd _ hm1 _ this.1 (by rw [a])
  · exact hd _ hm1 _ this.2 (by rw [a])
 have c1 := h1.cn_but hf.1 n1
 have c2 := h2.cn_but hf.1 n2
 refine ⟨e, x, he, hx, c1, c2, fun hc => hb.2 ((oth_eq (g (partOf n (l.eraseIdx p[k]))) hx).2 ?_)⟩
 unfold Cn at c1 c2 hc
 rw [c2, ← c1, hc]
/-! ## A forest's trees -/
end Pt

/- The search through a forest from one vertex on. Plain mathematics, no program in sight. -/
namespace Pt
set_option linter.unusedVariables false

def atB (l : List PE) (x : Int) (i : Nat) : Bool := match l[i]? with | some e => decide (e.1 = x ∨ e.2 = x) | none => false
def starK (l : List PE) (x : Int) (k : Nat) : List Nat := (List.range k).filter (atB l x)
theorem starK_yes {l : List PE} {x : Int} {k : Nat} {e : PE} (hk : l[k]? = some e) (h : e.1 = x ∨ e.2 = x) : starK l x (k + 1) = starK l x k ++ [k] := by
 simp [starK, List.range_succ, List.filter_append, atB, hk, h]
theorem starK_no {l : List PE} {x : Int} {k : Nat} {e : PE} (hk : l[k]? = some e) (h : ¬ (e.1 = x ∨ e.2 = x)) : starK l x (k + 1) = starK l x k := by
 simp only [starK, List.range_succ, List.filter_append]
 have : atB l x k = false := by simp only [atB, hk]; exact decide_eq_false h
 simp [this]
theorem starK_nodup (l : List PE) (x : Int) (k : Nat) : (starK l x k).Nodup := List.Pairwise.filter _ List.nodup_range
theorem starK_len (l : List PE) (x : Int) (k : Nat) : (starK l x k).length ≤ k := by
 have := List.length_filter_le (atB l x) (List.range k)
 simpa [starK] using this
theorem starK_mem {l : List PE} {x : Int} {i : Nat} : i ∈ starK l x l.length ↔ ∃ e, l[i]? = some e ∧ (e.1 = x ∨ e.2 = x) := by
 unfold starK atB
 rw [List.mem_filter, List.mem_range]
 constructor
 ·
  rintro ⟨_, h⟩
  cases he : l[i]? with
  | none => rw [he] at h; simp at h
  | some e => rw [he] at h; exact ⟨e, rfl, by simpa using h⟩
 ·
  rintro ⟨e, he, h⟩
  refine ⟨(List.getElem?_eq_some_iff.1 he).1, ?_⟩
  rw [he]; simpa using h
def Bf (n : Nat) (l : List PE) (v : Int) (lead os : List Int) (h : Nat) (S : List Nat) : Prop :=
 lead.length = n ∧ os.Nodup ∧ (∀ x ∈ os, InR n x) ∧ os[0]? = some v ∧ g lead v = -1 ∧ (∀ x, InR n x → x ∉ os → g lead x = -1) ∧
 (∀ (j : Nat) y, 0 < j → os[j]? = some y → ∃ (i : Nat) (e : PE), g lead y = (i : Int) ∧ l[i]? = some e ∧ (e.1 = y ∨ e.2 = y) ∧ ∃ j', j' < j ∧ os[j']? = some (oth e y) ∧ (j' < h ∨ (j' = h ∧ i ∈ S))) ∧
 (∀ (j : Nat) x, os[j]? = some x → ∀ (i : Nat) (e : PE), l[i]? = some e → (e.1 = x ∨ e.2 = x) → (j < h ∨ (j = h ∧ i ∈ S)) → oth e x ∈ os)
theorem g_rep {n : Nat} {x : Int} (hx : InR n x) : g (List.replicate n (-1)) x = -1 := by
 unfold InR at hx
 have : x.toNat < n := by omega
 simp [g, List.getD, this]
theorem Bf.start {n : Nat} {l : List PE} {v : Int} (hv : InR n v) : Bf n l v (List.replicate n (-1)) [v] 0 [] := by
 refine ⟨by simp, by simp, by simp [hv], rfl, g_rep hv, fun x hx _ => g_rep hx, fun j y hj hy => ?_, fun j x hj i e _ _ h => ?_⟩
 · rw [List.getElem?_eq_none (by simp; omega)] at hy; cases hy
 ·
  rcases h with h | ⟨_, h⟩
  · omega
  · simp at h
theorem nd_at {os : List Int} (hn : os.Nodup) {i j : Nat} {x : Int} (hi : os[i]? = some x) (hj : os[j]? = some x) : i = j := by
 obtain ⟨a, ha⟩ := List.getElem?_eq_some_iff.1 hi
 obtain ⟨b, hb⟩ := List.getElem?_eq_some_iff.1 hj
 have h1 := hn.idxOf_getElem i a
 have h2 := hn.idxOf_getElem j b
 rw [ha] at h1
 rw [hb] at h2
 omega
theorem Bf.skip {n : Nat} {l : List PE} {v : Int} {lead os : List Int} {h : Nat} {S : List Nat} (hb : Bf n l v lead os h S) {x : Int} (hx : os[h]? = some x) {i : Nat} {e : PE} (hi : l[i]? = some e) (he : g lead x = (i : Int)) :
  Bf n l v lead os h (S ++ [i]) := by
 obtain ⟨b1, b2, b3, b4, b5, b6, b7, b8⟩ := hb
 refine ⟨b1, b2, b3, b4, b5, b6, fun j y hj hy => ?_, fun j y hj i' e' h1 h2 h3 => ?_⟩
 ·
  obtain ⟨i', e', c1, c2, c3, j', c4, c5, c6⟩ := b7 j y hj hy
  exact ⟨i', e', c1, c2, c3, j', c4, c5, c6.imp id fun ⟨a, b⟩ => ⟨a, by simp [b]⟩⟩
 ·
  rcases h3 with h3 | ⟨h3, h4⟩
  · exact b8 j y hj i' e' h1 h2 (.inl h3)
  ·
   rcases List.mem_append.1 h4 with h4 | h4
   · exact b8 j y hj i' e' h1 h2 (.inr ⟨h3, h4⟩)
   ·
    simp at h4
    subst h4 h3
    rw [hx] at hj; injection hj with hj; subst hj
    have h0 : 0 < j := by
     rcases Nat.eq_zero_or_pos j with h0 | h0
     ·
      subst h0
      rw [b4] at hx; injection hx with hx; subst hx
      omega
     · exact h0
    obtain ⟨i'', e2, c1, c2, c3, j', c4, c5, c6⟩ := b7 j x h0 hx
    have : i'' = i' := by omega
    subst this
    rw [h1] at c2; injection c2 with c2; subst c2
    exact List.mem_of_getElem? c5
theorem Bf.cn {n : Nat} {l : List PE} {v : Int} {lead os : List Int} {h : Nat} {S : List Nat} (hl : MayL n l) (hb : Bf n l v lead os h S) {i : Nat} (hi : ∀ y ∈ os, g lead y ≠ (i : Int)) :
  ∀ (j : Nat) y, os[j]? = some y → Cn n (l.eraseIdx i) y v := by
 obtain ⟨b1, b2, b3, b4, b5, b6, b7, b8⟩ := hb
 intro j
 induction j using Nat.strongRecOn with
 | _ j ih =>
  intro y hy
  rcases Nat.eq_zero_or_pos j with h0 | h0
  ·
   subst h0
   rw [b4] at hy; injection hy with hy; subst hy
   rfl
  ·
   obtain ⟨i', e, c1, c2, c3, j', c4, c5, c6⟩ := b7 j y h0 hy
   have hne : i' ≠ i := fun h => hi y (List.mem_of_getElem? hy) (by rw [← h]; exact c1)
   have d1 := ih j' c4 _ c5
   have d2 : Cn n (l.eraseIdx i) y (oth e y) := (oth_eq (g (partOf n (l.eraseIdx i))) c3).1 (Cn.edge (hl.sub fun _ h => mem_erase h) (erase_mem c2 hne))
   unfold Cn at d1 d2 ⊢
   rw [d2, d1]
theorem g_set_ne {lead : List Int} {y : Int} {z : Int} {x : Int} (hx : InR lead.length x) (hne : x ≠ y) (hy : 0 ≤ y) : g (lead.set y.toNat z) x = g lead x := by
 rw [g_set _ _ _ _ hx, if_neg]
 unfold InR at hx; omega
theorem g_set_at {lead : List Int} {y : Int} {z : Int} (hy : InR lead.length y) : g (lead.set y.toNat z) y = z := by
 rw [g_set _ _ _ _ hy, if_pos rfl]
theorem Bf.fresh {n : Nat} {l : List PE} (hf : Fst n l) {v : Int} {lead os : List Int} {h : Nat} {S : List Nat} (hb : Bf n l v lead os h S) {x : Int} (hx : os[h]? = some x) {i : Nat} {e : PE} (hi : l[i]? = some e) (hex : e.1 = x ∨ e.2 = x) (hS : i ∉ S) (he : g lead x ≠ (i : Int)) : oth e x ∉ os := by
 intro hy
 have hbr := hf.bridge hi
 have key : ∀ z ∈ os, g lead z ≠ (i : Int) := by
  intro z hz hzi
  obtain ⟨j, hj⟩ := List.mem_iff_getElem?.1 hz
  obtain ⟨b1, b2, b3, b4, b5, b6, b7, b8⟩ := hb
  have h0 : 0 < j := by
   rcases Nat.eq_zero_or_pos j with h0 | h0
   ·
    subst h0
    rw [b4] at hj; injection hj with hj; subst hj
    omega
   · exact h0
  obtain ⟨i', e', c1, c2, c3, j', c4, c5, c6⟩ := b7 j z h0 hj
  have : i' = i := by omega
  subst this
  rw [hi] at c2; injection c2 with c2; subst c2
  have hzx : z ≠ x := fun h => he (by rw [← h]; exact hzi)
  have hozx : oth e z = x := by
   rcases oth_cases hex with ⟨a1, a2⟩ | ⟨a1, a2⟩ <;> rcases oth_cases c3 with ⟨d1, d2⟩ | ⟨d1, d2⟩ <;> omega
  rw [hozx] at c5
  have := nd_at b2 c5 hx
  subst this
  rcases c6 with h | ⟨_, h⟩
  · omega
  · exact hS h
 obtain ⟨j, hj⟩ := List.mem_iff_getElem?.1 hy
 have d1 := hb.cn hf.1 key _ _ hj
 have d2 := hb.cn hf.1 key _ _ hx
 refine hbr.2 ((oth_eq (g (partOf n (l.eraseIdx i))) hex).2 ?_)
 unfold Cn at d1 d2
 rw [d2, d1]
theorem Bf.new {n : Nat} {l : List PE} (hf : Fst n l) {v : Int} {lead os : List Int} {h : Nat} {S : List Nat} (hb : Bf n l v lead os h S) {x : Int} (hx : os[h]? = some x) {i : Nat} {e : PE} (hi : l[i]? = some e) (hex : e.1 = x ∨ e.2 = x) (hS : i ∉ S) (he : g lead x ≠ (i : Int)) :
  Bf n l v (lead.set (oth e x).toNat (i : Int)) (os ++ [oth e x]) h (S ++ [i]) := by
 have hy := hb.fresh hf hx hi hex hS he
 have hyr := oth_in (hf.1 e (List.mem_of_getElem? hi)) x
 have hhx : e.1 = oth e x ∨ e.2 = oth e x := oth_end hex
 have hoo := oth_oth hex
 generalize oth e x = y at *
 obtain ⟨b1, b2, b3, b4, b5, b6, b7, b8⟩ := hb
 have hvo : v ∈ os := List.mem_of_getElem? b4
 have hlt := (List.getElem?_eq_some_iff.1 hx).1
 have keep : ∀ z ∈ os, g (lead.set y.toNat (i : Int)) z = g lead z := fun z hz => g_set_ne (by rw [b1]; exact b3 z hz) (fun h => hy (h ▸ hz)) hyr.1
 refine ⟨by simp [b1], ?_, ?_, ?_, ?_, ?_, ?_, ?_⟩
 ·
  rw [List.nodup_append]
  exact ⟨b2, by simp, fun a ha b hb => by simp at hb; subst hb; exact fun h => hy (h ▸ ha)⟩
 ·
  intro z hz
  rcases List.mem_append.1 hz with hz | hz
  · exact b3 z hz
  · simp at hz; subst hz; exact hyr
 · rw [List.getElem?_append_left (by omega)]; exact b4
 · rw [keep v hvo]; exact b5
 ·
  intro z hzr hz
  rw [g_set_ne (by rw [b1]; exact hzr) (fun h => hz (by simp [h])) hyr.1]
  exact b6 z hzr fun h => hz (by simp [h])
 ·
  intro j z h0 hj
  rcases Nat.lt_or_ge j os.length with hjl | hjl
  ·
   rw [List.getElem?_append_left hjl] at hj
   obtain ⟨i', e', c1, c2, c3, j', c4, c5, c6⟩ := b7 j z h0 hj
   refine ⟨i', e', by rw [keep z (List.mem_of_getElem? hj)]; exact c1, c2, c3, j', c4, ?_, c6.imp id fun ⟨a, b⟩ => ⟨a, by simp [b]⟩⟩
   rw [List.getElem?_append_left (by omega)]; exact c5
  ·
   rw [List.getElem?_append_right hjl] at hj
   have : j = os.length := by
    rcases Nat.lt_or_ge (j - os.length) 1 with h | h
    · omega
    · rw [List.getElem?_eq_none (by simp; omega)] at hj; cases hj
   subst this
   simp at hj; subst hj
   refine ⟨i, e, by rw [g_set_at (by rw [b1]; exact hyr)], hi, hhx, h, hlt, ?_, .inr ⟨rfl, by simp⟩⟩
   rw [hoo, List.getElem?_append_left hlt]; exact hx
 ·
  intro j z hj i' e' h1 h2 h3
  have hjl : j < os.length := by omega
  rw [List.getElem?_append_left hjl] at hj
  rcases h3 with h3 | ⟨h3, h4⟩
  · exact List.mem_append_left _ (b8 j z hj i' e' h1 h2 (.inl h3))
  ·
   rcases List.mem_append.1 h4 with h4 | h4
   · exact List.mem_append_left _ (b8 j z hj i' e' h1 h2 (.inr ⟨h3, h4⟩))
   ·
    simp at h4
    subst h4 h3
    rw [hx] at hj; injection hj with hj; subst hj
    rw [hi] at h1; injection h1 with h1; subst h1
    have : oth e x = y := by
     rcases oth_cases hex with ⟨a1, a2⟩ | ⟨a1, a2⟩ <;> rcases oth_cases hhx with ⟨d1, d2⟩ | ⟨d1, d2⟩ <;> omega
    rw [this]; simp
theorem Bf.next {n : Nat} {l : List PE} {v : Int} {lead os : List Int} {h : Nat} {x : Int} (hx : os[h]? = some x) (hb : Bf n l v lead os h (starK l x l.length)) : Bf n l v lead os (h + 1) [] := by
 obtain ⟨b1, b2, b3, b4, b5, b6, b7, b8⟩ := hb
 refine ⟨b1, b2, b3, b4, b5, b6, fun j y hj hy => ?_, fun j y hj i e h1 h2 h3 => ?_⟩
 ·
  obtain ⟨i', e', c1, c2, c3, j', c4, c5, c6⟩ := b7 j y hj hy
  exact ⟨i', e', c1, c2, c3, j', c4, c5, .inl (by omega)⟩
 ·
  rcases h3 with h3 | ⟨_, h3⟩
  ·
   rcases Nat.lt_or_ge j h with h4 | h4
   · exact b8 j y hj i e h1 h2 (.inl h4)
   ·
    have : j = h := by omega
    subst this
    rw [hx] at hj; injection hj with hj; subst hj
    exact b8 j x hx i e h1 h2 (.inr ⟨rfl, starK_mem.2 ⟨e, h1, h2⟩⟩)
  · simp at h3
theorem Bf.len {n : Nat} {l : List PE} {v : Int} {lead os : List Int} {h : Nat} {S : List Nat} (hb : Bf n l v lead os h S) : os.length ≤ n := Nodup_inR hb.2.1 hb.2.2.1
def LeadOk (n : Nat) (l : List PE) (v : Int) (lead : List Int) : Prop :=
 lead.length = n ∧ ∃ d : Int → Nat, ∀ x, InR n x → x ≠ v →
  (Cn n l x v ∧ ∃ (i : Nat) (e : PE), g lead x = (i : Int) ∧ l[i]? = some e ∧ (e.1 = x ∨ e.2 = x) ∧ d (oth e x) < d x) ∨ (¬ Cn n l x v ∧ g lead x = -1)
theorem Bf.done {n : Nat} {l : List PE} (hl : MayL n l) {v : Int} {lead os : List Int} {h : Nat} (hv : InR n v) (hh : os.length ≤ h) (hb : Bf n l v lead os h []) : LeadOk n l v lead := by
 have hb' := hb
 obtain ⟨b1, b2, b3, b4, b5, b6, b7, b8⟩ := hb
 have cl : ∀ e ∈ l, (decide (e.1 ∈ os)) = decide (e.2 ∈ os) := by
  intro e he
  obtain ⟨i, hi⟩ := List.mem_iff_getElem?.1 he
  have key : ∀ x, (e.1 = x ∨ e.2 = x) → x ∈ os → oth e x ∈ os := by
   intro x hx hxo
   obtain ⟨j, hj⟩ := List.mem_iff_getElem?.1 hxo
   exact b8 j x hj i e hi hx (.inl (by have := (List.getElem?_eq_some_iff.1 hj).1; omega))
  have k1 := key e.1 (.inl rfl)
  have k2 := key e.2 (.inr rfl)
  have o1 : oth e e.1 = e.2 := by simp [oth]
  have o2 : oth e e.2 = e.1 := by unfold oth; split <;> omega
  rw [o1] at k1; rw [o2] at k2
  by_cases h1 : e.1 ∈ os
  · simp [h1, k1 h1]
  ·
   have : ¬ e.2 ∈ os := fun h => h1 (k2 h)
   simp [h1, this]
 have hvo : v ∈ os := List.mem_of_getElem? b4
 refine ⟨b1, fun x => os.idxOf x, fun x hx hne => ?_⟩
 by_cases hxo : x ∈ os
 ·
  left
  obtain ⟨j, hj⟩ := List.mem_iff_getElem?.1 hxo
  have hc : Cn n l x v := by
   have := Bf.cn hl hb' (i := l.length) (fun y hy he => by
    obtain ⟨j, hj⟩ := List.mem_iff_getElem?.1 hy
    rcases Nat.eq_zero_or_pos j with h0 | h0
    · subst h0; rw [b4] at hj; injection hj with hj; subst hj; omega
    ·
     obtain ⟨i', e', c1, c2, _⟩ := b7 j y h0 hj
     have : i' = l.length := by omega
     subst this
     rw [List.getElem?_eq_none (Nat.le_refl _)] at c2; cases c2) j x hj
   rwa [List.eraseIdx_of_length_le (Nat.le_refl _)] at this
  have h0 : 0 < j := by
   rcases Nat.eq_zero_or_pos j with h0 | h0
   · subst h0; rw [b4] at hj; injection hj with hj; exact absurd hj.symm hne
   · exact h0
  obtain ⟨i, e, c1, c2, c3, j', c4, c5, _⟩ := b7 j x h0 hj
  have ix : ∀ {j : Nat} {x : Int}, os[j]? = some x → os.idxOf x = j := by
   intro j x hj
   obtain ⟨a, ha⟩ := List.getElem?_eq_some_iff.1 hj
   have h1 := b2.idxOf_getElem j a
   rw [ha] at h1
   exact h1
  exact ⟨hc, i, e, c1, c2, c3, by show os.idxOf (oth e x) < os.idxOf x; rw [ix c5, ix hj]; exact c4⟩
 ·
  right
  refine ⟨fun hc => hxo ?_, b6 x hx hxo⟩
  have := Cn.univ (fun y => decide (y ∈ os)) hl cl hx hv hc
  simpa [hvo] using this
def Dn (l : List PE) (d : Int → Nat) : Int → List Nat → Int → Prop
 | u, [], v => u = v
 | u, i :: is, v => ∃ e, l[i]? = some e ∧ (e.1 = u ∨ e.2 = u) ∧ d (oth e u) < d u ∧ Dn l d (oth e u) is v
theorem Dn.snoc {l : List PE} {d : Int → Nat} {i : Nat} {e : PE} (he : l[i]? = some e) {x : Int} (hx : e.1 = x ∨ e.2 = x) (hd : d (oth e x) < d x) : ∀ {p : List Nat} {u : Int}, Dn l d u p x → Dn l d u (p ++ [i]) (oth e x)
 | [], u, h => by simp [Dn] at h; subst h; exact ⟨e, he, hx, hd, rfl⟩
 | j :: p, u, h => by
  obtain ⟨e', hd', hu, hlt, ht⟩ := h
  exact ⟨e', hd', hu, hlt, ht.snoc he hx hd⟩
theorem Dn.sm {l : List PE} {d : Int → Nat} {v : Int} : ∀ {p : List Nat} {u : Int}, Dn l d u p v → Sm l u p v ∧ ∀ x ∈ Vs l u p, d x ≤ d u
 | [], u, h => ⟨⟨h, by simp [Vs]⟩, by simp [Vs]⟩
 | j :: p, u, h => by
  obtain ⟨e, he, hu, hlt, ht⟩ := h
  obtain ⟨⟨h1, h2⟩, h3⟩ := ht.sm
  refine ⟨⟨⟨e, he, hu, h1⟩, ?_⟩, ?_⟩
  ·
   simp only [Vs, he, List.nodup_cons]
   exact ⟨fun h => by have := h3 _ h; omega, h2⟩
  ·
   intro x hx
   simp only [Vs, he, List.mem_cons] at hx
   rcases hx with rfl | hx
   · exact Nat.le_refl _
   · have := h3 x hx; omega
def edsAt {α : Type} (l : List α) (p : List Nat) : List α := p.filterMap fun i => l[i]?
theorem edsAt_snoc {α : Type} (l : List α) (p : List Nat) {i : Nat} {e : α} (h : l[i]? = some e) : edsAt l (p ++ [i]) = edsAt l p ++ [e] := by simp [edsAt, h]
end Pt

set_option linter.unusedVariables false
namespace Md

def P : Nat := 2305843009213693951
theorem P_eq : P = 2305843009213693951 := rfl
theorem P_pos : 0 < P := by rw [P_eq]; omega
def add (a b : Nat) : Nat := (a % P + b % P) % P
def sub (a b : Nat) : Nat := (a % P + P - b % P) % P
def mul (a b : Nat) : Nat := (a % P) * (b % P) % P
def pow (a n : Nat) : Nat := a ^ n % P
def inv (a : Nat) : Nat := a ^ (P - 2) % P
theorem add_eq (a b : Nat) : add a b = (a + b) % P := by unfold add; rw [← Nat.add_mod]
theorem mul_eq (a b : Nat) : mul a b = a * b % P := by unfold mul; rw [← Nat.mul_mod]
theorem mul_lt (a b : Nat) : mul a b < P := Nat.mod_lt _ P_pos
theorem of_lt {a : Nat} (h : a < P) : a % P = a := Nat.mod_eq_of_lt h
/-! ## The round of Pow -/
def pw : Nat → Nat → Nat → Nat → Nat
 | 0, p, _, _ => p
 | f + 1, p, s, n => if n = 0 then p else pw f (if n % 2 = 1 then mul p s else p) (mul s s) (n / 2)
theorem pow_half (s n : Nat) : s ^ n = (if n % 2 = 1 then s else 1) * (s * s) ^ (n / 2) := by
 have h := Nat.div_add_mod n 2
 rw [← Nat.pow_two, ← Nat.pow_mul]
 split
 ·
  rename_i h1
  rw [Nat.mul_comm s, ← Nat.pow_succ]; congr 1; omega
 · rw [Nat.one_mul]; congr 1; omega
theorem pow_step (p s n : Nat) : (if n % 2 = 1 then mul p s else p) * mul s s ^ (n / 2) % P = p * s ^ n % P := by
 rw [pow_half s n]
 split
 · rw [mul_eq, mul_eq, Nat.mul_mod, Nat.mod_mod, ← Nat.pow_mod, ← Nat.mul_mod, Nat.mul_assoc]
 · rw [mul_eq, Nat.mul_mod, ← Nat.pow_mod, ← Nat.mul_mod, Nat.one_mul]
theorem pw_eq (f p s n : Nat) (h : n < 2 ^ f) : pw f p s n % P = p * s ^ n % P := by
 induction f generalizing p s n with
 | zero => 
  have : n = 0 := by simpa using h
  subst this; simp [pw]
 | succ f ih =>
  unfold pw
  split
  · rename_i h0; subst h0; simp
  · rw [ih _ _ _ (by rw [Nat.pow_succ] at h; omega), pow_step]
theorem pw_pow (a n : Nat) (h : n < 2 ^ 64) : pw 64 1 a n % P = pow a n := by
 rw [pw_eq 64 1 a n h, Nat.one_mul]; rfl
/-! ## Sums and products -/
theorem mul_comm (a b : Nat) : mul a b = mul b a := by rw [mul_eq, mul_eq, Nat.mul_comm]
theorem mul_assoc (a b c : Nat) : mul (mul a b) c = mul a (mul b c) := by
 simp only [mul_eq]; rw [Nat.mod_mul_mod, Nat.mul_mod_mod, Nat.mul_assoc]
theorem add_mul (a b c : Nat) : mul (add a b) c = add (mul a c) (mul b c) := by
 simp only [mul_eq, add_eq]; rw [Nat.mod_mul_mod, ← Nat.add_mod, Nat.add_mul]
theorem sub_add (a b : Nat) : add (sub a b) b = a % P := by
 unfold add sub; rw [Nat.mod_mod]
 have h := Nat.mod_lt b P_pos
 have e : (a % P + P - b % P) + b % P = a % P + P := by omega
 rw [Nat.mod_add_mod, e, Nat.add_mod_right, Nat.mod_mod]
theorem add_sub (a b : Nat) : sub (add a b) b = a % P := by
 unfold sub
 rw [add_eq, Nat.mod_mod]
 have h := Nat.mod_lt b P_pos
 have h2 := Nat.div_add_mod b P
 have e : (a + b) % P + P - b % P = (a + b) % P + (P - b % P) := by omega
 rw [e, Nat.mod_add_mod]
 have e2 : a + b + (P - b % P) = a + P * (b / P) + P := by omega
 rw [e2, Nat.add_mod_right, Nat.add_mul_mod_self_left]
theorem mul_sub (a x y : Nat) : mul a (sub x y) = sub (mul a x) (mul a y) := by
 have h : add (mul a (sub x y)) (mul a y) = mul a x := by
  rw [mul_comm a, mul_comm a y, ← add_mul, sub_add, mul_comm a x]
  unfold mul; rw [Nat.mod_mod]
 have h2 := add_sub (mul a (sub x y)) (mul a y)
 rw [h, of_lt (mul_lt _ _)] at h2
 exact h2.symm
theorem mul_one (a : Nat) : mul a 1 = a % P := by rw [mul_eq, Nat.mul_one]
/-! ## Fermat -/
def N : Nat := P - 1
theorem pwd (a n r : Nat) (h : n < 2 ^ 64) (e : pw 64 1 a n % P = r) : a ^ n % P = r := by rw [← e, pw_pow a n h]; rfl
theorem inv_zero_g (b k : Nat) (h : b % P = 0) (hk : 0 < k) : b ^ k % P = 0 := by
 obtain ⟨j, rfl⟩ : ∃ j, k = j + 1 := ⟨k - 1, by omega⟩
 rw [Nat.pow_mod, h, Nat.pow_succ, Nat.mul_zero, Nat.zero_mod]
theorem inv_zero (b : Nat) (h : b % P = 0) : inv b = 0 := inv_zero_g b (P - 2) h (by rw [P_eq]; omega)
theorem inv_eval (a r : Nat) (h : pw 64 1 a (P - 2) % P = r) : inv a = r := pwd a (P - 2) r (by decide) h
theorem inv_two : inv 2 = 1152921504606846976 := by
 exact inv_eval 2 _ (by decide +kernel)
theorem mul_zero (a b : Nat) (h : b % P = 0) : mul a b = 0 := by unfold mul; rw [h, Nat.mul_zero, Nat.zero_mod]
end Md

set_option linter.unusedVariables false
namespace Md

/-! ## Division of 128 bits by P: the school's steps, at base 2^32 -/
def QR (u v q r : Nat) : Prop := q * 4294967295 + r = u ∧ (u * 4294967296 + v) / 18446744073709551608 ≤ q ∧ q ≤ 4294967297
theorem qr_start (u v : Nat) (hu : u < 18446744073709551608) (hv : v < 4294967296) : QR u v (u / 4294967295) (u - u / 4294967295 * 4294967295) := by
 refine ⟨by omega, ?_, by omega⟩
 omega
theorem qr_down {u v q r : Nat} (hu : u < 18446744073709551608) (hv : v < 4294967296) (h : QR u v q r) (ht : 4294967296 ≤ q ∨ 4294967296 * r + v < q * 4294967288) : 0 < q ∧ QR u v (q - 1) (r + 4294967295) := by
 obtain ⟨h1, h2, h3⟩ := h
 unfold QR
 omega
theorem qr_stop {u v q r : Nat} (hu : u < 18446744073709551608) (hv : v < 4294967296) (h : QR u v q r) (ht : ¬ (4294967296 * r + v < q * 4294967288)) : q = (u * 4294967296 + v) / 18446744073709551608 := by
 obtain ⟨h1, h2, h3⟩ := h
 omega
theorem qr_break {u v q r : Nat} (hu : u < 18446744073709551608) (hv : v < 4294967296) (h : QR u v q r) (hq : q ≤ 4294967296) (hr : 4294967296 ≤ r) : q = (u * 4294967296 + v) / 18446744073709551608 := by
 obtain ⟨h1, h2, h3⟩ := h
 omega
theorem rem_all (hi lo : Nat) (h : hi < 2305843009213693951) (hl : lo < 18446744073709551616) (u un10 un1 un0 r1 r2 : Nat) (hu : u = hi * 8 + lo / 2305843009213693952) (h10 : un10 = lo * 8 % 18446744073709551616)
  (h1 : un1 = un10 / 4294967296) (h0 : un0 = un10 % 4294967296) (hr1 : r1 = (u * 4294967296 + un1) % 18446744073709551608) (hr2 : r2 = (r1 * 4294967296 + un0) % 18446744073709551608) :
  r2 / 8 = (hi * 18446744073709551616 + lo) % 2305843009213693951 := by
 subst hu h10 h1 h0 hr1 hr2
 omega
end Md

/- Bytes: numbers in bytes and back; the sum of bytes. -/
set_option linter.unusedVariables false
namespace Sn
abbrev By := List UInt8
def enc : Nat → Nat → By
 | _, 0 => []
 | n, k + 1 => UInt8.ofNat (n % 256) :: enc (n / 256) k
def dec : By → Nat
 | [] => 0
 | b :: l => b.toNat + 256 * dec l
theorem enc_len (n k : Nat) : (enc n k).length = k := by
 induction k generalizing n with
 | zero => rfl
 | succ k ih => simp [enc, ih]
theorem dec_enc (n k : Nat) (h : n < 256 ^ k) : dec (enc n k) = n := by
 induction k generalizing n with
 | zero => simp at h; simp [enc, dec, h]
 | succ k ih =>
  have h2 : n / 256 < 256 ^ k := by
   rw [Nat.div_lt_iff_lt_mul (by omega)]
   rw [Nat.pow_succ] at h
   exact h
  simp only [enc, dec, ih _ h2, UInt8.toNat_ofNat']
  omega
theorem enc_inj {a b k : Nat} (ha : a < 256 ^ k) (hb : b < 256 ^ k) (h : enc a k = enc b k) : a = b := by
 rw [← dec_enc a k ha, ← dec_enc b k hb, h]
def P : Nat := 2305843009213693951
def step (s : Nat) (b : UInt8) : Nat := (s * 257 + (b.toNat + 1)) % P
def sumF (s : Nat) (l : By) : Nat := l.foldl step s
def sum (l : By) : Nat := sumF 1 l
theorem sumF_app (s : Nat) (a b : By) : sumF s (a ++ b) = sumF (sumF s a) b := by simp [sumF]
theorem step_lt (s : Nat) (b : UInt8) : step s b < P := Nat.mod_lt _ (by decide)
theorem sumF_lt {s : Nat} (h : s < P) (l : By) : sumF s l < P := by
 induction l generalizing s with
 | nil => exact h
 | cons b l ih => exact ih (step_lt s b)
theorem sum_lt (l : By) : sum l < P := sumF_lt (by decide) l
theorem dvd_small {P : Nat} {d t : Int} (h : d = (P : Int) * t) (h1 : -(P : Int) < d) (h2 : d < (P : Int)) : d = 0 := by
 have hP : (0 : Int) ≤ (P : Int) := Int.natCast_nonneg P
 rcases Int.lt_trichotomy t 0 with h3 | h3 | h3
 ·
  have := Int.mul_le_mul_of_nonneg_left (show t ≤ -1 by omega) hP
  omega
 · rw [h, h3, Int.mul_zero]
 ·
  have := Int.mul_le_mul_of_nonneg_left (show 1 ≤ t by omega) hP
  omega
theorem mod_sub {P x y : Nat} (h : x % P = y % P) : ∃ t : Int, (x : Int) - y = (P : Int) * t := by
 have e1 := Nat.div_add_mod x P
 have e2 := Nat.div_add_mod y P
 rw [h] at e1
 refine ⟨((x / P : Nat) : Int) - ((y / P : Nat) : Int), ?_⟩
 rw [Int.mul_sub, ← Int.natCast_mul, ← Int.natCast_mul]
 omega
theorem inv_gen {P K m : Nat} (hK : 257 * K = 1 + P * m) {a b c : Nat} (ha : a < P) (hb : b < P) (h : (a * 257 + c) % P = (b * 257 + c) % P) : a = b := by
 obtain ⟨q, hq⟩ := mod_sub h
 have h1 : ((a : Int) - b) * 257 = (P : Int) * q := by
  rw [← hq]; omega
 have hK2 : (257 : Int) * (K : Int) = 1 + (P : Int) * (m : Int) := by
  have := congrArg (Int.ofNat) hK
  simpa using this
 have h2 : (a : Int) - b = (P : Int) * (q * K - m * ((a : Int) - b)) := by
  have e : ((a : Int) - b) * 257 * K = (P : Int) * q * K := by rw [h1]
  rw [Int.mul_assoc, hK2, Int.mul_add, Int.mul_one] at e
  rw [Int.mul_sub, ← Int.mul_assoc, ← e, ← Int.mul_assoc (P : Int), Int.mul_comm ((a : Int) - b)]
  omega
 have := dvd_small h2 (by omega) (by omega)
 omega
theorem add_gen {P z u v : Nat} (hu : u < P) (hv : v < P) (h : (z + u) % P = (z + v) % P) : u = v := by
 obtain ⟨q, hq⟩ := mod_sub h
 have h2 : (u : Int) - v = (P : Int) * q := by rw [← hq]; omega
 have := dvd_small h2 (by omega) (by omega)
 omega
theorem inv257 (a b : Nat) (ha : a < P) (hb : b < P) (c : Nat) (h : (a * 257 + c) % P = (b * 257 + c) % P) : a = b :=
 inv_gen (P := P) (K := 1327878464449909357) (m := 148) (by decide) ha hb h
theorem step_inj {a b : Nat} (ha : a < P) (hb : b < P) (x : UInt8) (h : step a x = step b x) : a = b := inv257 a b ha hb _ h
theorem sumF_inj {a b : Nat} (ha : a < P) (hb : b < P) (l : By) (h : sumF a l = sumF b l) : a = b := by
 induction l generalizing a b with
 | nil => exact h
 | cons x l ih => exact step_inj ha hb x (ih (step_lt a x) (step_lt b x) h)
theorem small_P {n : Nat} (h : n < 257) : n < P := Nat.lt_of_lt_of_le h (by decide)
theorem step_inj2 {a : Nat} {x y : UInt8} (h : step a x = step a y) : x = y := by
 have hx := x.toNat_lt
 have hy := y.toNat_lt
 have := add_gen (P := P) (small_P (by omega)) (small_P (by omega)) h
 exact UInt8.toNat_inj.1 (by omega)
theorem sum_changed (a b : By) {x y : UInt8} (h : x ≠ y) : sum (a ++ x :: b) ≠ sum (a ++ y :: b) := by
 intro e
 unfold sum at e
 rw [sumF_app, sumF_app] at e
 have e2 : sumF (step (sumF 1 a) x) b = sumF (step (sumF 1 a) y) b := e
 exact h (step_inj2 (sumF_inj (step_lt _ _) (step_lt _ _) b e2))
end Sn

/- States and their bytes. -/
set_option linter.unusedVariables false
namespace Sn
structure St where
  N : Int
  L : Int
  R : Int
  hs : List (Int × Int)
  es : List (Int × Int × Int)
  ss : List (Bool × Int)
def part (l : By) (at_ k : Nat) : By := (l.drop at_).take k
theorem part_all (b : By) {k : Nat} (h : b.length = k) : part b 0 k = b := by
 unfold part; rw [List.drop_zero, List.take_of_length_le (by omega)]
def encI (n : Int) (k : Nat) : By := enc n.toNat k
def hB (h : Int × Int) : By := encI h.1 8 ++ encI h.2 8
def sB (s : Bool × Int) : By := enc (if s.1 then 1 else 0) 1 ++ encI s.2 8
def eB (e : Int × Int × Int) : By := encI e.1 2 ++ (encI e.2.1 2 ++ encI e.2.2 1)
def mark : By := [82, 65, 70, 84]
def head (s : St) : By := mark ++ (encI s.N 2 ++ (encI s.L 2 ++ encI s.R 2))
def body (s : St) : By := head s ++ (s.hs.flatMap hB ++ (s.ss.flatMap sB ++ (enc s.es.length 4 ++ s.es.flatMap eB)))
def save (s : St) : By := body s ++ enc (sum (body s)) 8
/-! ## Back -/
def num (b : By) (at_ k : Nat) : Nat := dec (part b at_ k)
def fixedOf (N L R : Nat) : Nat := 14 + L * R * 16 + N * 9
def Fits (b : By) : Prop :=
 10 ≤ b.length ∧ num b 4 2 ≤ 1024 ∧ num b 6 2 ≤ 16 ∧ num b 8 2 ≤ 8 ∧ fixedOf (num b 4 2) (num b 6 2) (num b 8 2) + 8 ≤ b.length ∧
  (b.length - fixedOf (num b 4 2) (num b 6 2) (num b 8 2) - 8) % 5 = 0 ∧ num b (fixedOf (num b 4 2) (num b 6 2) (num b 8 2) - 4) 4 = (b.length - fixedOf (num b 4 2) (num b 6 2) (num b 8 2) - 8) / 5
instance (b : By) : Decidable (Fits b) := by unfold Fits; infer_instance
structure Ok (s : St) : Prop where
  n0 : 0 ≤ s.N
  n1 : s.N ≤ 1024
  l0 : 0 ≤ s.L
  l1 : s.L ≤ 16
  r0 : 0 ≤ s.R
  r1 : s.R ≤ 8
  hl : (s.hs.length : Int) = s.L * s.R
  sl : (s.ss.length : Int) = s.N
  el : s.es.length < 4294967296
  hb : ∀ i, (h : i < s.hs.length) → (0 ≤ s.hs[i].1 ∧ s.hs[i].1 < 18446744073709551616) ∧ 0 ≤ s.hs[i].2 ∧ s.hs[i].2 < 18446744073709551616
  sb : ∀ i, (h : i < s.ss.length) → 0 ≤ s.ss[i].2 ∧ s.ss[i].2 < 18446744073709551616
  eb : ∀ i, (h : i < s.es.length) → (0 ≤ s.es[i].1 ∧ s.es[i].1 < 65536) ∧ (0 ≤ s.es[i].2.1 ∧ s.es[i].2.1 < 65536) ∧ 0 ≤ s.es[i].2.2 ∧ s.es[i].2.2 < 256
end Sn

/- A state's bytes say the state. -/
set_option linter.unusedVariables false
namespace Sn
section
variable (s : St)
def tl8 : By := enc (sum (body s)) 8
theorem cutN : save s = mark ++ (encI s.N 2 ++ (encI s.L 2 ++ (encI s.R 2 ++ (s.hs.flatMap hB ++ (s.ss.flatMap sB ++ (enc s.es.length 4 ++ (s.es.flatMap eB ++ tl8 s))))))) := by
 simp only [save, body, head, tl8, List.append_assoc]
theorem cutL : save s = (mark ++ encI s.N 2) ++ (encI s.L 2 ++ (encI s.R 2 ++ (s.hs.flatMap hB ++ (s.ss.flatMap sB ++ (enc s.es.length 4 ++ (s.es.flatMap eB ++ tl8 s)))))) := by
 rw [cutN]; simp only [List.append_assoc]
end
variable {s : St}
end Sn

/- Bytes that are cut off, or turned, are no state's. -/
set_option linter.unusedVariables false
namespace Sn
theorem sum_256 (l : By) : sum l < 256 ^ 8 := Nat.lt_of_lt_of_le (sum_lt l) (by decide)
theorem set_split {b : By} {p : Nat} (hp : p < b.length) (x : UInt8) : b.set p x = b.take p ++ x :: b.drop (p + 1) := by
 rw [List.set_eq_take_append_cons_drop, if_pos hp]
theorem self_split {b : By} {p : Nat} (hp : p < b.length) : b = b.take p ++ b[p] :: b.drop (p + 1) := by
 rw [← List.drop_eq_getElem_cons hp, List.take_append_drop]
theorem turned {a c : By} {p : Nat} {x : UInt8} (hp : p < (a ++ enc (sum a) 8).length) (h : (a ++ enc (sum a) 8).set p x = c ++ enc (sum c) 8) : x = (a ++ enc (sum a) 8)[p] := by
 have hl : a.length = c.length := by
  have := congrArg List.length h
  simp only [List.length_set, List.length_append, enc_len] at this
  omega
 by_cases hpa : p < a.length
 ·
  rw [List.set_append_left _ _ hpa] at h
  obtain ⟨h1, h2⟩ := List.append_inj h (by simpa using hl)
  have h3 := enc_inj (sum_256 a) (sum_256 c) h2
  rw [List.getElem_append_left hpa]
  by_cases hx : x = a[p]
  · exact hx
  ·
   exfalso
   have h4 := sum_changed (a.take p) (a.drop (p + 1)) hx
   rw [← set_split hpa, ← self_split hpa, h1] at h4
   exact h4 h3.symm
 ·
  rw [List.set_append_right _ _ (by omega)] at h
  obtain ⟨h1, h2⟩ := List.append_inj h hl
  subst h1
  have hq : p - a.length < (enc (sum a) 8).length := by simp only [List.length_append] at hp; omega
  rw [List.getElem_append_right (by omega)]
  have := congrArg (fun l => l[p - a.length]?) h2
  simp only [List.getElem?_set_self hq, List.getElem?_eq_getElem hq] at this
  exact Option.some.inj this
end Sn
namespace Go.Proofs.YtahodfikhocobaaGreatDoor
/-- What a put into a row of slots comes to. -/
theorem putL.{u} {α : Type u} : (∀ (l : List α) (i : Nat) (a : α), l.toArray.setIfInBounds i a = (l.set i a).toArray) ∧ (∀ (x a : α) (l : List α), (x :: l).set 0 a = a :: l) ∧ (∀ (x a : α) (l : List α) (n : Nat), (x :: l).set (n + 1) a = x :: l.set n a) ∧ (∀ (l : List α) (i : Nat) (h : i < l.toArray.size), l.toArray[i] = l[i]'(by simpa using h)) ∧ (∀ (x : α) (l : List α) (i : Nat) (h : i + 1 < (x :: l).length), (x :: l)[i + 1] = l[i]'(by simpa using h)) ∧ (∀ (x : α) (l : List α) (h : 0 < (x :: l).length), (x :: l)[0] = x) :=
  ⟨fun _ _ _ => by simp, fun _ _ _ => rfl, fun _ _ _ _ => rfl, fun _ _ _ => by simp, fun _ _ _ _ => rfl, fun _ _ _ => rfl⟩
end Go.Proofs.YtahodfikhocobaaGreatDoor

