/- Bytes; contracts of snap.put, snap.get. -/
import Derived.Test.YtbafbnkmmpaomaaMgA
import Derived.Test.YtbafbnkmmpaomaaMgVer
import Derived.Test.YtbafbnkmmpaomaaModD
import Derived.Laws.BytesArg
import Derived.Laws.IdiomStrings
import Derived.IntWalk
import Derived.Deep.AppendLies
import Derived.ArgAppend
namespace Go.Proofs.Ytbafbnkmmpaomaa
open Go.RowKit
set_option linter.unusedVariables false
set_option linter.unusedSimpArgs false
attribute [local go_sem ↓] Go.wp_at_zero Go.wp_at_succ

/-- The cells of bytes. -/
def bys (l : Sn.By) : List Value := l.map fun b : UInt8 => .int .u8 (b.toNat : Int)
theorem len_bys (l : Sn.By) : (bys l).length = l.length := by simp [bys]
theorem bys_app (p q : Sn.By) : bys p ++ bys q = bys (p ++ q) := by simp [bys]
theorem bys_one (l : Sn.By) : ∀ u ∈ bys l, u.oneCell' = true := by
  intro u hu
  obtain ⟨_, _, rfl⟩ := List.mem_map.1 hu
  rfl
theorem Tbys : SlT 50 5 (.int .u8 0) 1 1 := SlT.mk Try.underlying50 (by kernel_rfl) rfl (by decide) (by decide)
section
variable {ops : Array Oper} {rest : List Oper} {o : Oper} {a : Act} {Q : Exit → Act → World → Prop} {w : World}
/-- out = append(out, x), and where the new row lies. -/
theorem wl_app1L (hgd : o.guard = none) (s x : Operand) {t e : TypeId} {z : Value} {by_ : Nat} (hT : SlT t e z 1 by_) (hop : o.op = .call { callee := .builtin .append, args := #[s, x], argTypes := #[t, t] })
    {base : Nat} {v : Value} {n : Nat} {xs : List Value} {y : Value} {e' : TypeId} (hs : a.eval s = v) (hown : w.ownsRow base e 1 v n xs) {H : Nat} (hx : a.eval x = .slice (some ⟨H, 0, none⟩) 1 1) (hH : w.heap.size = H)
    (h1 : y.oneCell' = true) (hb : (n + 1) * by_ ≤ 140737488355328) (hbase : base ≤ w.heap.size)
    (h : ∀ g cap w', w'.ownsRow base e 1 (.slice (some ⟨g, 0, none⟩) (n + 1) cap) (n + 1) (xs ++ [y]) → w.grownBy w' v.ownBlock → (v.ownBlock = some g ∨ w.heap.size ≤ g) → g < w'.heap.size → wpList Try.prog ops Q rest (a.put o.dst (.slice (some ⟨g, 0, none⟩) (n + 1) cap)) w') :
    wpList Try.prog ops Q (o :: rest) a (w.alloc (.cells #[y] e')) := by
  obtain ⟨hu, ⟨i, hi, hz, hsz, hby⟩, hzs, h0, h0b⟩ := hT
  have h63 : n + 1 ≤ maxLen := by
    have : n + 1 ≤ (n + 1) * by_ := Nat.le_mul_of_pos_right _ h0b
    unfold maxLen; omega
  subst hH
  refine wpList_append_lies (w.alloc (.cells #[y] e')) hgd s x t hop base e i z 1 by_ hu hi hz hsz hby hzs h0 v n xs hs (hown.alloc _) ⟨w.heap.size, 0, none⟩ 1 1 [y] hx rfl (fun j u hu => ?_) (fun u hu => by simp at hu; subst hu; exact h1) (by omega) h63 hb (by simp; omega) _ rfl ?_
  · rw [Addr.add_lit, Nat.zero_add]; exact ((Blk.new w e' [y]).cell j).trans hu
  · intro g cap w' h2 h3 h4 h5
    refine h g cap w' h2 ⟨h3.os, h3.tape, h3.output, Nat.le_trans (by simp) h3.size, fun k hk hne => (h3.block k (by simp; omega) hne).trans (Below.heap_alloc w _ k hk)⟩ ?_ h5
    rcases h4 with h4 | h4
    · exact .inl h4
    · exact .inr (by rw [h4]; simp)
end
def PutP (base : Nat) (w : World) (v : Value) (n : Nat) (l : Sn.By) (e : Ending) (w' : World) : Prop := ∃ v', e = .returned v' ∧ w'.ownsRow base 5 1 v' n (bys l) ∧ Grw w w' v v' ∧ Below base w w'
theorem grw_lies {w w' : World} {v : Value} {g n c : Nat} (h1 : w.grownBy w' v.ownBlock) (h2 : v.ownBlock = some g ∨ w.heap.size ≤ g) : Grw w w' v (.slice (some ⟨g, 0, none⟩) n c) :=
  ⟨h1, by rcases h2 with h2 | h2; exact .inl h2.symm; exact .inr (fun q hq => by simp [Value.ownBlock] at hq; omega)⟩
/-- A row of bytes to which may be appended: the call's own, or one that is full. -/
def Rdy (w : World) (base : Nat) (v : Value) (n : Nat) (l : Sn.By) : Prop :=
  w.ownsRow base 5 1 v n (bys l) ∨ ∃ b, v = .slice (some ⟨b, 0, none⟩) n n ∧ l.length = n ∧ b < w.heap.size ∧ ∀ j u, (bys l)[j]? = some u → w.cell? ⟨b, j, none⟩ = some u
theorem Rdy.cast {w : World} {base n n' : Nat} {v : Value} {l l' : Sn.By} (h : Rdy w base v n l) (hn : n = n') (hl : l = l') : Rdy w base v n' l' := by subst hn hl; exact h
section
variable {ops : Array Oper} {rest : List Oper} {o : Oper} {a : Act} {Q : Exit → Act → World → Prop} {w : World}
theorem wl_rdy (hgd : o.guard = none) (s x : Operand) (hop : o.op = .call { callee := .builtin .append, args := #[s, x], argTypes := #[50, 50] })
    {base : Nat} {v : Value} {n : Nat} {l : Sn.By} {y : Value} {e' : TypeId} (hs : a.eval s = v) (hr : Rdy w base v n l) {H : Nat} (hx : a.eval x = .slice (some ⟨H, 0, none⟩) 1 1) (hH : w.heap.size = H)
    (h1 : y.oneCell' = true) (hb : n + 1 ≤ 140737488355328) (hbase : base ≤ w.heap.size)
    (h : ∀ v' w', w'.ownsRow base 5 1 v' (n + 1) (bys l ++ [y]) → Grw w w' v v' → Below base w w' → wpList Try.prog ops Q rest (a.put o.dst v') w') :
    wpList Try.prog ops Q (o :: rest) a (w.alloc (.cells #[y] e')) := by
  rcases hr with hown | ⟨b, rfl, hl, hlt, hc⟩
  · refine wl_app1L hgd s x Tbys hop hs hown hx hH h1 (by omega) hbase ?_
    intro g cap w' h2 h3 h4 h5
    exact h _ _ h2 (grw_lies h3 h4) (grown_below hown h3 hbase)
  · subst hH
    obtain ⟨hu, ⟨i, hi, hz, hsz, hby⟩, hzs, h0, h0b⟩ := Tbys
    refine wpList_append_arg (w.alloc (.cells #[y] e')) hgd s x 50 hop 5 i (.int .u8 0) 1 1 hu hi hz hsz hby hzs h0 b 0 n n (bys l) hs (by rw [len_bys]; omega) (fun j u hu => ?_)
      ⟨w.heap.size, 0, none⟩ 1 1 [y] hx rfl (fun j u hu => ?_) (fun u hu => by simp at hu; subst hu; exact h1) (fun hc => absurd hc (by omega)) (by unfold maxLen; omega) (by omega) (fun hc => absurd hc (by omega)) (fun _ v' w' h2 h3 => ?_)
    · rw [Nat.zero_add]; exact cell_later (bel_new w _) (hc j u hu)
    · rw [Addr.add_lit, Nat.zero_add]; exact ((Blk.new w e' [y]).cell j).trans hu
    · have hall : ∀ k, k < w.heap.size → w'.heap[k]? = w.heap[k]? := fun k hk => (h3.block k (by simp; omega) (by simp)).trans (Below.heap_alloc w _ k hk)
      have hsz2 : w.heap.size ≤ w'.heap.size := Nat.le_trans (by simp) h3.size
      refine h v' w' (own_more h2 (by simp; omega)) ⟨⟨h3.os, h3.tape, h3.output, hsz2, fun k hk _ => hall k hk⟩, .inr fun q hq => ?_⟩ ⟨h3.os, h3.tape, h3.output, hsz2, fun k hk => hall k (by omega)⟩
      have := (h2.lt q hq).1
      simp at this
      omega
end
theorem byte_u8 (n : Nat) : ((UInt8.ofNat (n % 256)).toNat : Int) = ((n % 256 : Nat) : Int) := by simp
theorem byte_one (x : Int) : ∀ u ∈ [Value.int .u8 x], u.oneCell' = true := fun u hu => by simp at hu; subst hu; rfl
theorem half_q {q n j : Nat} (h : q = n / 256 ^ j) (hq : q < 18446744073709551616) : Hid (q / 256 = n / 256 ^ (j + 1)) ∧ q / 256 < 18446744073709551616 :=
  ⟨hid (by rw [h, Nat.div_div_eq_div_mul, Nat.pow_succ]), by omega⟩
theorem enc_own {w : World} {base : Nat} {v : Value} {m j n q : Nat} {l : Sn.By} (h : w.ownsRow base 5 1 v (m + j + 1) (bys (l ++ Sn.enc n j) ++ [.int .u8 ((q : Int) % 256)])) (hq : q = n / 256 ^ j) :
    w.ownsRow base 5 1 v (m + (j + 1)) (bys (l ++ Sn.enc n (j + 1))) := by
  have e : bys (l ++ Sn.enc n (j + 1)) = bys (l ++ Sn.enc n j) ++ [.int .u8 ((q : Int) % 256)] := by
    rw [Sn.enc_snoc, ← hq, ← List.append_assoc, ← bys_app]
    simp [bys]
  rw [e]; exact h
set_option maxRecDepth 100000 in
theorem bput_any {base : Nat} {v : Value} {m : Nat} {l : Sn.By} {n k : Nat} {w : World} (ho : Rdy w base v m l) (hn : n < 18446744073709551616) (hk1 : 1 ≤ k) (hk : k ≤ 8) (hm : m ≤ 1000000) (hb : base ≤ w.heap.size) :
    Calls Try.prog 27 #[v, .int .u64 (n : Int), .int .i64 (k : Int)] w (PutP base w v (m + k) (l ++ Sn.enc n k)) := by
  have HO := hid ho
  have HBS := hid hb
  clear ho hb
  go_enter Try.func27, Try.ntmps27
  go_wp2_with fail
  go_loopw [0, 1, 8] (fun bv nv iv wr => ∃ (j q : Nat), iv = .int .i64 (j : Int) ∧ j ≤ k ∧ nv = .int .u64 (q : Int) ∧ Hid (q = n / 256 ^ j) ∧ q < 18446744073709551616 ∧ Hid (Rdy wr base bv (m + j) (l ++ Sn.enc n j)) ∧ Hid (0 < j → wr.ownsRow base 5 1 bv (m + j) (bys (l ++ Sn.enc n j))) ∧ Hid (Grw w wr v bv) ∧ Hid (Below base w wr)) (fun _ _ iv _ => k - (intOf iv).toNat)
  case atStart => exact ⟨0, n, rfl, Nat.zero_le _, rfl, hid (by simp), hn, hid (by simpa [Sn.enc] using HO.out), hid (fun h => absurd h (Nat.lt_irrefl 0)), hid (Grw.refl _ _), hid (Below.refl _ _)⟩
  case round =>
    obtain ⟨j, q, rfl, hj, rfl, HQ, hq, HR, HRO, HG, HB⟩ := hrel
    by_cases hlt : j < k
    · have j0 : (j : Int) < (k : Int) := by omega
      have HZ : Hid (base ≤ wr.heap.size) := hid (Nat.le_trans HBS.out HB.out.size)
      have hmj : m + j + 1 ≤ 140737488355328 := by omega
      go_wp2_with (at_builtin; (refine wl_rdy rfl _ _ rfl (y := .int .u8 ((q : Int) % 256)) rfl HR.out rfl rfl rfl hmj HZ.out ?_))
      intro v9 w9 o9 gr9 b9
      have G9 := hid (HG.out.trans gr9)
      have O9 := hid (enc_own o9 HQ.out)
      have B9 := hid (HB.out.trans b9)
      have HQ2 := hid (half_q HQ.out hq)
      clear o9 b9 gr9
      go_wp2_with fail
      go_roundw
      case rel => exact ⟨j + 1, q / 256, by go_num, by omega, by go_num, HQ2.out.1, HQ2.out.2, hid (.inl O9.out), hid (fun _ => O9.out), G9, B9⟩
      case measure => simp [intOf]; omega
    · obtain rfl : j = k := by omega
      have j0 : ¬ (j : Int) < (j : Int) := by omega
      go_wp2
      go_ret
      exact ⟨_, rfl, HRO.out hk1, HG.out, HB.out⟩
end Go.Proofs.Ytbafbnkmmpaomaa
