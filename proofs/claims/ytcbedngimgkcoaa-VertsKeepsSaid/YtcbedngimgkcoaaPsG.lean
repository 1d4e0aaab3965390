/- Contract of seq.appended. -/
import Derived.Test.YtcbedngimgkcoaaPsF
import Derived.Deep.RegionHeldLaw
import Derived.Deep.AppendLies
namespace Go.Proofs.Ytcbedngimgkcoaa
open Go.RowKit Sq
set_option linter.unusedVariables false
attribute [local go_sem ↓] Go.wp_at_zero Go.wp_at_succ

/-- The cells of pairs. -/
def prs (l : List (Int × Int)) : List Value := l.flatMap fun e => [.int .u64 e.1, .int .i64 e.2]
theorem len_prs (l : List (Int × Int)) : (prs l).length = l.length * 2 := by
  induction l with
  | nil => rfl
  | cons e l ih => simp [prs] at ih ⊢; omega
theorem prs_app (p q : List (Int × Int)) : prs p ++ prs q = prs (p ++ q) := by simp [prs]
theorem prs_at (l : List (Int × Int)) (k : Nat) (h : k < l.length) : (prs l)[k * 2]? = some (.int .u64 l[k].1) ∧ (prs l)[k * 2 + 1]? = some (.int .i64 l[k].2) := by
  induction l generalizing k with
  | nil => simp at h
  | cons e l ih =>
    cases k with
    | zero => simp [prs]
    | succ k =>
      have := ih k (by simpa using h)
      simp only [prs, List.flatMap_cons, List.getElem_cons_succ] at this ⊢
      refine ⟨?_, ?_⟩
      · rw [show (k + 1) * 2 = k * 2 + 2 by omega, List.getElem?_append_right (by simp)]; simpa using this.1
      · rw [show (k + 1) * 2 + 1 = k * 2 + 1 + 2 by omega, List.getElem?_append_right (by simp)]; simpa using this.2
theorem prs_cell {w : World} {b o : Nat} {l : List (Int × Int)} (h : ∀ j u, (prs l)[j]? = some u → w.cell? ⟨b, o + j, none⟩ = some u) {k : Nat} (hk : k < l.length) :
    w.cell? ⟨b, o + k * 2, none⟩ = some (.int .u64 l[k].1) ∧ w.cell? ⟨b, o + k * 2 + 1, none⟩ = some (.int .i64 l[k].2) := by
  have e := prs_at l k hk
  exact ⟨h _ _ e.1, by rw [Nat.add_assoc]; exact h _ _ e.2⟩
theorem prs_one (l : List (Int × Int)) : ∀ u ∈ prs l, u.oneCell' = true := by
  intro u hu
  obtain ⟨e, _, h⟩ := List.mem_flatMap.1 hu
  simp at h
  rcases h with rfl | rfl <;> rfl
theorem Tprs : SlT 68 71 (.agg #[.int .u64 0, .int .i64 0]) 2 16 := SlT.mk Try.underlying68 (by kernel_rfl) rfl (by decide) (by decide)

/-- But for v's own block (and new ones) w' is as w was; v' is v's row, or a new one. -/
def Grw (w w' : World) (v v' : Value) : Prop := w.grownBy w' v.ownBlock ∧ (v'.ownBlock = v.ownBlock ∨ ∀ g, v'.ownBlock = some g → w.heap.size ≤ g)
theorem Grw.refl (w : World) (v : Value) : Grw w w v v := ⟨World.grownBy.refl _ _, .inl rfl⟩
theorem Grw.of_below {w w' : World} {v : Value} (h : Below w.heap.size w w') : Grw w w' v v := ⟨⟨h.os, h.tape, h.output, h.size, fun i hi _ => h.block i hi⟩, .inl rfl⟩
theorem Grw.trans {a b c : World} {v1 v2 v3 : Value} (h : Grw a b v1 v2) (h' : Grw b c v2 v3) : Grw a c v1 v3 := by
  refine ⟨⟨h'.1.os.trans h.1.os, h'.1.tape.trans h.1.tape, h'.1.output.trans h.1.output, Nat.le_trans h.1.size h'.1.size, fun i hi hne => ?_⟩, ?_⟩
  · refine (h'.1.block i (Nat.lt_of_lt_of_le hi h.1.size) ?_).trans (h.1.block i hi hne)
    rcases h.2 with e | e
    · rw [e]; exact hne
    · intro e'
      have := e i e'.symm
      omega
  · rcases h'.2 with e | e
    · rw [e]; exact h.2
    · exact .inr fun g hg => Nat.le_trans h.1.size (e g hg)
theorem Grw.below {w w' : World} {base : Nat} {e : TypeId} {sz n : Nat} {v v' : Value} {xs : List Value} (h : Grw w w' v v') (hown : w.ownsRow base e sz v n xs) (hb : base ≤ w.heap.size) : Below base w w' := grown_below hown h.1 hb
theorem Grw.blk {w w' : World} {k : Nat} {t : TypeId} {v v' : Value} {cs : List Value} (h : Grw w w' v v') (hk : Blk w k t cs) (hne : some k ≠ v.ownBlock) : Blk w' k t cs := (h.1.block k hk.lt hne).trans hk
theorem bel_cell {a b : World} {base k o : Nat} {u : Value} (hk : k < base) (hb : Below base a b) (h : a.cell? ⟨k, o, none⟩ = some u) : b.cell? ⟨k, o, none⟩ = some u := (hb.cell (p := ⟨k, o, none⟩) hk).trans h
theorem IsTr.bel {w a : World} {B : Nat} {v : Option Addr} {t : Tr (Int × Int)} (h : IsTr w B v t) (hb : Below B w a) : IsTr a B v t := h.keep (Nat.le_refl _) fun b o hlt => hb.cell (p := ⟨b, o, none⟩) hlt
theorem IsTr.alloc {w : World} {B : Nat} {v : Option Addr} {t : Tr (Int × Int)} (h : IsTr w B v t) (hB : B ≤ w.heap.size) (o : Obj) : IsTr (w.alloc o) B v t := h.bel ((Below.refl _ _).alloc hB o)
theorem base_alloc {w : World} {B : Nat} (h : B ≤ w.heap.size) (o : Obj) : B ≤ (w.alloc o).heap.size := by simp; omega
theorem own_ne {w : World} {base : Nat} {e : TypeId} {sz n : Nat} {v : Value} {xs : List Value} (h : w.ownsRow base e sz v n xs) : some w.heap.size ≠ v.ownBlock := fun e => by have := (h.lt _ e.symm).2; omega

theorem step_app {ops : Array Oper} {o : Oper} {a : Act} {K : Act → World → Prop} {Q : Exit → Act → World → Prop} {w : World} {E : Prop} (hgd : o.guard = none) (s x : Operand) {t e : TypeId} {z : Value} {sz by_ : Nat} (hT : SlT t e z sz by_) (hop : o.op = .call { callee := .builtin .append, args := #[s, x], argTypes := #[t, t] })
    {base : Nat} {v : Value} {n : Nat} {xs : List Value} (hs : a.eval s = v) (hown : w.ownsRow base e sz v n xs) {b : Nat} {e' : TypeId} {news : List Value} (hx : a.eval x = .slice (some ⟨b, 0, none⟩) 1 1) (hblk : Blk w b e' news)
    (hl : news.length = sz) (h1 : ∀ u ∈ news, u.oneCell' = true) (hb : (n + 1) * by_ ≤ 140737488355328) (hbase : base ≤ w.heap.size)
    (h : ∀ v' w', w'.ownsRow base e sz v' (n + 1) (xs ++ news) → Grw w w' v v' → Below base w w' → K (a.put o.dst v') w') : if Region.wanted o (yielded ops a.tmps) = true then Oper.wp Try.prog o a w K Q else E := by
  have hw : Region.wanted o (yielded ops a.tmps) = true := by simp [Region.wanted, hgd]
  rw [if_pos hw]
  obtain ⟨hu, ⟨i, hi, hz, hsz, hby⟩, hzs, h0, h0b⟩ := hT
  have h63 : n + 1 ≤ maxLen := by
    have : n + 1 ≤ (n + 1) * by_ := Nat.le_mul_of_pos_right _ h0b
    unfold maxLen; omega
  refine wp_append_lies w s x t hop base e i z sz by_ hu hi hz hsz hby hzs h0 v n xs hs hown ⟨b, 0, none⟩ 1 1 news hx (by omega) (fun j u hu => ?_) h1 (by omega) h63 hb hbase _ rfl ?_
  · rw [Addr.add_lit, Nat.zero_add, hblk.cell]; exact hu
  · intro g cap w' h2 h3 h4 h5
    refine h _ w' h2 ⟨h3, ?_⟩ (grown_below hown h3 hbase)
    rcases h4 with h4 | h4
    · exact .inl (by rw [h4]; rfl)
    · refine .inr fun g' hg => ?_
      have : g = g' := by simpa [Value.ownBlock] using hg
      omega

def ApPost (w : World) (v : Value) (base n : Nat) (l : List (Int × Int)) (e : Ending) (w' : World) : Prop := ∃ v', e = .returned v' ∧ w'.ownsRow base 71 2 v' n (prs l) ∧ Grw w w' v v' ∧ Below base w w'
set_option maxRecDepth 100000 in
set_option maxHeartbeats 2000000 in
theorem appended_any {t : Tr (Int × Int)} {pt : Option Addr} {v : Value} {base n : Nat} {p : List (Int × Int)} {w : World} (hown : w.ownsRow base 71 2 v n (prs p)) (hbase : base ≤ w.heap.size) (ht : IsTr w base pt t) (hle : n + sz t ≤ 1000000) :
    Calls Try.prog 42 #[v, .pointer pt] w (ApPost w v base (n + sz t) (p ++ ls t)) := by
  induction t generalizing pt v n p w with
  | nil =>
    have HO := hid hown
    have HT := hid ht
    clear hown ht
    go_enter Try.func42, Try.ntmps42
    go_wp2_with fail
    refine (len_any HT.out).mono ?_; rintro e w' ⟨rfl, rfl⟩
    go_wp2
    go_ret
    exact ⟨_, rfl, by simpa [ls, sz] using HO.out, Grw.refl _ _, Below.refl _ _⟩
  | node a x b iha ihb =>
    have HO := hid hown
    have HT := hid ht
    obtain ⟨k, pa, pb, rfl, hlt, c0, c1, c2, c2', c3, c4, hpa, hpb⟩ := ht
    have HPA := hid hpa
    have HPB := hid hpb
    have hn : Hid (sz (.node a x b) = sz a + 1 + sz b) := hid rfl
    have hs0 : Hid (n + sz a + 1 + sz b ≤ 1000000) := hid (by rw [hn.out] at hle; omega)
    have e0 : ((sz (.node a x b) : Int) == 0) = false := by rw [hn.out]; simp; omega
    have IA : ∀ {v : Value} {w : World}, w.ownsRow base 71 2 v n (prs p) → base ≤ w.heap.size → IsTr w base pa a → Calls Try.prog 42 #[v, .pointer pa] w (ApPost w v base (n + sz a) (p ++ ls a)) :=
      fun {v w} h1 h2 h3 => iha h1 h2 h3 (by have := hs0.out; omega)
    have IB : ∀ {v : Value} {w : World}, w.ownsRow base 71 2 v (n + sz a + 1) (prs (p ++ ls a ++ [x])) → base ≤ w.heap.size → IsTr w base pb b → Calls Try.prog 42 #[v, .pointer pb] w (ApPost w v base (n + sz a + 1 + sz b) (p ++ ls a ++ [x] ++ ls b)) :=
      fun {v w} h1 h2 h3 => ihb h1 h2 h3 (by have := hs0.out; omega)
    have hbb : (n + sz a + 1) * 16 ≤ 140737488355328 := by have := hs0.out; omega
    have HOd : Hid (w.drew.ownsRow base 71 2 v n (prs p)) := hid (own_below HO.out (qt_drew w).bel)
    have hbd : base ≤ w.drew.heap.size := hbase
    have HAd : Hid (IsTr w.drew base pa a) := hid (HPA.out.bel ((qt_drew w).below _))
    have HOe : Hid ((w.alloc (.cells #[.int .u64 x.1, .int .i64 x.2] 71)).drew.ownsRow base 71 2 v n (prs p)) := hid (own_below (HO.out.alloc _) (qt_drew _).bel)
    have hbe : base ≤ (w.alloc (.cells #[.int .u64 x.1, .int .i64 x.2] 71)).drew.heap.size := base_alloc hbase _
    have HAe : Hid (IsTr (w.alloc (.cells #[.int .u64 x.1, .int .i64 x.2] 71)).drew base pa a) := hid ((HPA.out.alloc hbase _).bel ((qt_drew _).below _))
    have HBe : Hid (Blk (w.alloc (.cells #[.int .u64 x.1, .int .i64 x.2] 71)).drew w.heap.size 71 [.int .u64 x.1, .int .i64 x.2]) := hid ((Blk.new w _ [.int .u64 x.1, .int .i64 x.2]).below (qt_drew _).bel (by simp))
    have hne := own_ne HO.out
    have c1' : w.drew.cell? ⟨k, 1, none⟩ = some (.pointer pb) := c1
    clear iha ihb hpa hpb c3 c4 hown hle
    go_enter Try.func42, Try.ntmps42
    go_wp2_with fail
    refine (len_any HT.out).mono ?_; rintro e w' ⟨rfl, rfl⟩
    go_wp2_with fail
    go_region_held_law (fun w' => w'.cell? ⟨k, 0, none⟩ = some (.pointer pa) ∧ w'.cell? ⟨k, 1, none⟩ = some (.pointer pb) ∧ w'.cell? ⟨k, 2, none⟩ = some (.int .u64 x.1) ∧ w'.cell? ⟨k, 3, none⟩ = some (.int .i64 x.2))
      (first | go_keep | (go_split_ands; and_intros <;> (refine bel_cell hlt hB3 ?_; assumption)) | (go_split_ands; and_intros <;> (refine bel_cell hlt hB2 ?_; assumption)) | (go_split_ands; and_intros <;> (refine cell_later (bel_new _ _) ?_; assumption)))
      (first | (go_simp; go_at_call 42; (with_reducible refine (IA HOd.out hbd HAd.out).mono ?_); rintro e w1 ⟨v2, rfl, hO2, hG2, hB2⟩)
             | (go_simp; go_at_call 42; (with_reducible refine (IA HOe.out hbe HAe.out).mono ?_); rintro e w1 ⟨v2, rfl, hO2, hG2, hB2⟩)
             | (refine step_app rfl _ _ Tprs rfl rfl (hO2.alloc _) rfl (Blk.new _ _ [.int .u64 x.1, .int .i64 x.2]) rfl (prs_one [x]) hbb (base_alloc (Nat.le_trans hbd hB2.size) _) ?_; intro v3 w3 hO3 hG3 hB3)
             | (have hbk := hG2.blk HBe.out hne; have hbz := Nat.le_trans hbe hB2.size; refine step_app rfl _ _ Tprs rfl rfl hO2 rfl hbk rfl (prs_one [x]) hbb hbz ?_; intro v3 w3 hO3 hG3 hB3))
    all_goals
      have HG : Grw w w3 v v3 := by
        first
          | exact ((Grw.of_below (qt_drew w).bel).trans hG2).trans ((Grw.of_below (bel_new w1 _)).trans hG3)
          | exact ((Grw.of_below ((bel_new w _).trans ((qt_drew _).below _))).trans hG2).trans hG3
      have HB := HG.below HO.out hbase
      have hO4 : Hid (w3.ownsRow base 71 2 v3 (n + sz a + 1) (prs (p ++ ls a ++ [x]))) := hid (by rw [← prs_app]; exact hO3)
      have HB3 : Hid (IsTr w3 base pb b) := hid (HPB.out.bel HB)
      have hz3 : base ≤ w3.heap.size := Nat.le_trans hbase HB.size
      have d1 : w3.cell? ⟨k, 1, none⟩ = some (.pointer pb) := bel_cell hlt HB c1
      have HGh := hid HG
      clear hO3 hG3 hB3 hO2 hG2 hB2 HG
      go_wp2_with fail
      refine (IB hO4.out hz3 HB3.out).mono ?_; rintro e w4 ⟨v4, rfl, hO5, hG5, hB5⟩
      go_wp2
      go_ret
      exact ⟨_, rfl, by rw [hn.out, show n + (sz a + 1 + sz b) = n + sz a + 1 + sz b by omega, show p ++ ls (.node a x b) = p ++ ls a ++ [x] ++ ls b by simp [ls]]; exact hO5, HGh.out.trans hG5, HB.trans hB5⟩
end Go.Proofs.Ytcbedngimgkcoaa
