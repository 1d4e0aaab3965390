/- Sequences in memory; contracts of seq.Len, seq.Height, seq.tree. -/
import Derived.Test.YtleeomiocofgiaaSeqPlain
import Derived.Test.YtleeomiocofgiaaBase
namespace Go.Proofs.Ytleeomiocofgiaa
open Go.RowKit Sq
set_option linter.unusedVariables false

/-- The pointer v leads to the sequence t, whose blocks are below B. -/
def IsTr (w : World) (B : Nat) : Option Addr → Tr Int → Prop
  | v, .nil => v = none
  | v, .node a x b => ∃ k va vb, v = some ⟨k, 0, none⟩ ∧ k < B ∧ w.cell? ⟨k, 0, none⟩ = some (.pointer va) ∧ w.cell? ⟨k, 1, none⟩ = some (.pointer vb) ∧ w.cell? ⟨k, 2, none⟩ = some (.int .i64 x) ∧
      w.cell? ⟨k, 3, none⟩ = some (.int .i64 (ht (.node a x b) : Nat)) ∧ w.cell? ⟨k, 4, none⟩ = some (.int .i64 (sz (.node a x b) : Nat)) ∧ IsTr w B va a ∧ IsTr w B vb b
theorem IsTr.keep {w w' : World} {B B' : Nat} {v : Option Addr} {t : Tr Int} (h : IsTr w B v t) (hB : B ≤ B') (hk : ∀ b o, b < B → w'.cell? ⟨b, o, none⟩ = w.cell? ⟨b, o, none⟩) : IsTr w' B' v t := by
  induction t generalizing v with
  | nil => exact h
  | node a x b iha ihb =>
    obtain ⟨k, va, vb, hv, hlt, h0, h1, h2, h3, h4, ha, hb⟩ := h
    exact ⟨k, va, vb, hv, by omega, (hk k 0 hlt).trans h0, (hk k 1 hlt).trans h1, (hk k 2 hlt).trans h2, (hk k 3 hlt).trans h3, (hk k 4 hlt).trans h4, iha ha, ihb hb⟩
theorem IsTr.call {w a : World} {v : Option Addr} {t : Tr Int} (h : IsTr w w.heap.size v t) (hb : Below w.heap.size w a) : IsTr a a.heap.size v t :=
  h.keep hb.size fun b o hlt => hb.cell (p := ⟨b, o, none⟩) hlt
theorem IsTr.cqt {w a : World} {v : Option Addr} {t : Tr Int} (h : IsTr w w.heap.size v t) (hq : Qt w a) : IsTr a a.heap.size v t := h.call hq.bel
theorem IsTr.new {w : World} {v : Option Addr} {t : Tr Int} (h : IsTr w w.heap.size v t) (o : Obj) : IsTr (w.alloc o) (w.alloc o).heap.size v t := h.call (bel_new w o)
theorem IsTr.none_ (w : World) (B : Nat) : IsTr w B none .nil := rfl

theorem len_any {v : Option Addr} {t : Tr Int} {B : Nat} {w : World} (h : IsTr w B v t) :
    Calls Try.prog 12 #[.pointer v] w fun e w' => e = .returned (.int .i64 (sz t : Nat)) ∧ w = w' := by
  cases t with
  | nil =>
    obtain rfl : v = none := h
    go_enter Try.func12, Try.ntmps12
    go_wp2
    go_ret
    exact ⟨rfl, rfl⟩
  | node a x b =>
    obtain ⟨k, va, vb, rfl, hlt, h0, h1, h2, h3, h4, ha, hb⟩ := h
    clear h0 h1 h2 h3 ha hb
    generalize sz (.node a x b) = n at *
    go_enter Try.func12, Try.ntmps12
    go_wp2
    go_ret
    exact ⟨rfl, rfl⟩
theorem height_any {v : Option Addr} {t : Tr Int} {B : Nat} {w : World} (h : IsTr w B v t) :
    Calls Try.prog 14 #[.pointer v] w fun e w' => e = .returned (.int .i64 (ht t : Nat)) ∧ w = w' := by
  cases t with
  | nil =>
    obtain rfl : v = none := h
    go_enter Try.func14, Try.ntmps14
    go_wp2
    go_ret
    exact ⟨rfl, rfl⟩
  | node a x b =>
    obtain ⟨k, va, vb, rfl, hlt, h0, h1, h2, h3, h4, ha, hb⟩ := h
    clear h0 h1 h2 h4 ha hb
    generalize ht (.node a x b) = n at *
    go_enter Try.func14, Try.ntmps14
    go_wp2
    go_ret
    exact ⟨rfl, rfl⟩
/-- A sequence that a call answers, and what it leaves as it was. -/
def TrPost (w : World) (t : Tr Int) (e : Ending) (w' : World) : Prop := ∃ v, e = .returned (.pointer v) ∧ IsTr w' w'.heap.size v t ∧ Below w.heap.size w w'
theorem tree_new {va vb : Option Addr} {a b : Tr Int} {x : Int} {w : World} (h s : Int) (e' : TypeId) (cs : Array Value) (w' : World) (hw : w' = w.alloc (.cells cs e')) (ha : IsTr w w.heap.size va a) (hb : IsTr w w.heap.size vb b)
    (hh : h = (ht (.node a x b) : Nat)) (hs : s = (sz (.node a x b) : Nat)) (hcs : cs = #[.pointer va, .pointer vb, .int .i64 x, .int .i64 h, .int .i64 s]) : TrPost w (.node a x b) (.returned (.pointer (some ⟨w.heap.size, 0, none⟩))) w' := by
  subst hw hcs hh hs
  have hB := Blk.new w e' [.pointer va, .pointer vb, .int .i64 x, .int .i64 (ht (.node a x b) : Nat), .int .i64 (sz (.node a x b) : Nat)]
  exact ⟨_, rfl, ⟨w.heap.size, va, vb, rfl, by simp, hB.cell 0, hB.cell 1, hB.cell 2, hB.cell 3, hB.cell 4, ha.new _, hb.new _⟩, bel_new _ _⟩
theorem tree_any {va vb : Option Addr} {a b : Tr Int} {x : Int} {w : World} (ha : IsTr w w.heap.size va a) (hb : IsTr w w.heap.size vb b) (hsa : sz a ≤ 1000000000) (hsb : sz b ≤ 1000000000) :
    Calls Try.prog 15 #[.pointer va, .int .i64 x, .pointer vb] w (TrPost w (.node a x b)) := by
  have HA := hid ha
  have HB := hid hb
  have ka := ht_le_sz a
  have kb := ht_le_sz b
  clear ha hb
  go_enter Try.func15, Try.ntmps15
  go_wp2_with fail
  refine (height_any HA.out).mono ?_; rintro e w' ⟨rfl, rfl⟩
  go_wp2_with fail
  refine (height_any HB.out).mono ?_; rintro e w' ⟨rfl, rfl⟩
  have hmx : Hid (ht (.node a x b) = max (ht a) (ht b) + 1) := hid rfl
  have hsz : Hid (sz (.node a x b) = sz a + 1 + sz b) := hid rfl
  rcases Nat.lt_or_ge (ht a) (ht b) with hpq | hpq
  · go_wp2_with fail
    refine (len_any HA.out).mono ?_; rintro e w' ⟨rfl, rfl⟩
    go_wp2_with fail
    refine (len_any HB.out).mono ?_; rintro e w' ⟨rfl, rfl⟩
    go_wp2
    go_ret
    refine tree_new _ _ _ _ _ rfl HA.out HB.out ?_ ?_ rfl
    · rw [hmx.out]; omega
    · rw [hsz.out]; omega
  · go_wp2_with fail
    refine (len_any HA.out).mono ?_; rintro e w' ⟨rfl, rfl⟩
    go_wp2_with fail
    refine (len_any HB.out).mono ?_; rintro e w' ⟨rfl, rfl⟩
    go_wp2
    go_ret
    refine tree_new _ _ _ _ _ rfl HA.out HB.out ?_ ?_ rfl
    · rw [hmx.out]; omega
    · rw [hsz.out]; omega
end Go.Proofs.Ytleeomiocofgiaa
