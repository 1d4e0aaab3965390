/- Contract of snap.parsed: what bytes say. -/
import Derived.Test.YtbafbnkmmpaomaaSnP
namespace Go.Proofs.Ytbafbnkmmpaomaa
open Go.RowKit
set_option linter.unusedVariables false
set_option linter.unusedSimpArgs false
attribute [local go_sem ↓] Go.wp_at_zero Go.wp_at_succ
theorem Thsh : SlT 24 59 (.agg #[.int .u64 0, .int .u64 0]) 2 16 := SlT.mk Try.underlying24 (by kernel_rfl) rfl (by decide) (by decide)
theorem Tslt : SlT 28 63 (.agg #[.bool false, .int .u64 0]) 2 16 := SlT.mk Try.underlying28 (by kernel_rfl) rfl (by decide) (by decide)
section
variable {w w' : World} {k base n sz : Nat} {e t : TypeId} {v : Value} {xs cs : List Value}
theorem own_only (h : w.ownsRow base e sz v n xs) (ho : Only k w w') (hk : k < base) : w'.ownsRow base e sz v n xs := by
  refine ⟨h.1, ?_⟩
  rcases h.2 with hn | ⟨g, cap, cur, rfl, hbk, hh, rest⟩
  · exact .inl hn
  · exact .inr ⟨g, cap, cur, rfl, hbk, (ho.block g (Array.getElem?_eq_some_iff.1 hh).1 (fun e => by injection e with e; omega)).trans hh, rest⟩
theorem blk_only {j : Nat} (h : Blk w j t cs) (ho : Only k w w') (hne : j ≠ k) : Blk w' j t cs := (ho.block j h.lt (fun e => hne (by injection e))).trans h
theorem blk_grow {j : Nat} (h : Blk w j t cs) (ho : w.ownsRow base e sz v n xs) (hg : w.grownBy w' v.ownBlock) (hk : j < base) : Blk w' j t cs :=
  (hg.block j h.lt (fun e => by have := (ho.lt j e.symm).1; omega)).trans h
theorem only_grow {a : World} (h : Only k a w) (ho : w.ownsRow base e sz v n xs) (hb : a.heap.size ≤ base) (hg : w.grownBy w' v.ownBlock) : Only k a w' :=
  ⟨hg.os.trans h.os, hg.tape.trans h.tape, hg.output.trans h.output, Nat.le_trans h.size hg.size,
    fun i hi hne => (hg.block i (Nat.lt_of_lt_of_le hi h.size) (fun e => by have := (ho.lt i e.symm).1; omega)).trans (h.block i hi hne)⟩
theorem only_qt {a : World} (h : Only k a w) (hq : Qt w w') : Only k a w' := by obtain ⟨j, rfl⟩ := hq; exact ⟨h.os, h.tape, h.output, h.size, h.block⟩
theorem only_below {a : World} (h : Only k a w) (hb : Below w.heap.size w w') : Only k a w' :=
  ⟨hb.os.trans h.os, hb.tape.trans h.tape, hb.output.trans h.output, Nat.le_trans h.size hb.size, fun i hi hne => (hb.block i (Nat.lt_of_lt_of_le hi h.size)).trans (h.block i hi hne)⟩
variable {ops : Array Oper} {o : Oper} {a : Act} {Q : Exit → Act → World → Prop}
/-- append(v, x) at a step of a region that draws: x lies in a new block. -/
theorem step_app1q {W : World} {K : Act → World → Prop} {E : Prop} (hgd : o.guard = none) (s x : Operand) {t e e' : TypeId} {z : Value} {sz by_ : Nat} (hT : SlT t e z sz by_) (hop : o.op = .call { callee := .builtin .append, args := #[s, x], argTypes := #[t, t] })
    {base : Nat} {v : Value} {n : Nat} {xs news : List Value} (hs : a.eval s = v) (hown : w.ownsRow base e sz v n xs) {H : Nat} (hx : a.eval x = .slice (some ⟨H, 0, none⟩) 1 1) (hH : w.heap.size = H) (hW : Qt (w.alloc (.cells news.toArray e')) W)
    (hl : news.length = sz) (h1 : news.all (fun u => u.oneCell') = true) (hb : (n + 1) * by_ ≤ 140737488355328) (hbase : base ≤ w.heap.size)
    (h : ∀ g cap w', w'.ownsRow base e sz (.slice (some ⟨g, 0, none⟩) (n + 1) cap) (n + 1) (xs ++ news) → w.grownBy w' v.ownBlock → K (a.put o.dst (.slice (some ⟨g, 0, none⟩) (n + 1) cap)) w') :
    if Region.wanted o (yielded ops a.tmps) = true then Oper.wp Try.prog o a W K Q else E := by
  obtain ⟨j, rfl⟩ := hW
  subst hH
  obtain ⟨hu, ⟨i, hi, hz, hsz, hby⟩, hzs, h0, h0b⟩ := hT
  have h63 : n + 1 ≤ maxLen := by
    have : n + 1 ≤ (n + 1) * by_ := Nat.le_mul_of_pos_right _ h0b
    unfold maxLen; omega
  have hq : Qt (w.alloc (.cells news.toArray e')) ((w.alloc (.cells news.toArray e')).drewN j) := ⟨j, rfl⟩
  refine step_append_lies ((w.alloc (.cells news.toArray e')).drewN j) hgd s x t hop base e i z sz by_ hu hi hz hsz hby hzs h0 v n xs hs (own_below (hown.alloc _) hq.bel) ⟨w.heap.size, 0, none⟩ 1 1 news hx (by rw [hl, Nat.one_mul]) (fun j u hu => ?_)
    (fun u hu => List.all_eq_true.1 h1 u hu) (by omega) h63 hb (by rw [hq.size]; simp; omega) _ rfl ?_
  · rw [Addr.add_lit, Nat.zero_add, hq.cell]; exact ((Blk.new w e' news).cell j).trans hu
  · intro g cap w' h2 h3 h4 h5
    exact h g cap w' h2 ⟨h3.os, h3.tape, h3.output, Nat.le_trans (by rw [hq.size]; simp) h3.size, fun k hk hne => (h3.block k (by rw [hq.size]; simp; omega) hne).trans (Below.heap_alloc w _ k hk)⟩
end
section
variable {ops : Array Oper} {rest : List Oper} {o : Oper} {a : Act} {Q : Exit → Act → World → Prop} {w : World}
/-- v = append(v, x): x lies in a new block. -/
theorem wl_app1g (hgd : o.guard = none) (s x : Operand) {t e e' : TypeId} {z : Value} {sz by_ : Nat} (hT : SlT t e z sz by_) (hop : o.op = .call { callee := .builtin .append, args := #[s, x], argTypes := #[t, t] })
    {base : Nat} {v : Value} {n : Nat} {xs news : List Value} (hs : a.eval s = v) (hown : w.ownsRow base e sz v n xs) {H : Nat} (hx : a.eval x = .slice (some ⟨H, 0, none⟩) 1 1) (hH : w.heap.size = H)
    (hl : news.length = sz) (h1 : news.all (fun u => u.oneCell') = true) (hb : (n + 1) * by_ ≤ 140737488355328) (hbase : base ≤ w.heap.size)
    (h : ∀ g cap w', w'.ownsRow base e sz (.slice (some ⟨g, 0, none⟩) (n + 1) cap) (n + 1) (xs ++ news) → w.grownBy w' v.ownBlock → wpList Try.prog ops Q rest (a.put o.dst (.slice (some ⟨g, 0, none⟩) (n + 1) cap)) w') :
    wpList Try.prog ops Q (o :: rest) a (w.alloc (.cells news.toArray e')) := by
  subst hH
  obtain ⟨hu, ⟨i, hi, hz, hsz, hby⟩, hzs, h0, h0b⟩ := hT
  have h63 : n + 1 ≤ maxLen := by
    have : n + 1 ≤ (n + 1) * by_ := Nat.le_mul_of_pos_right _ h0b
    unfold maxLen; omega
  refine wpList_append_lies (w.alloc (.cells news.toArray e')) hgd s x t hop base e i z sz by_ hu hi hz hsz hby hzs h0 v n xs hs (hown.alloc _) ⟨w.heap.size, 0, none⟩ 1 1 news hx (by rw [hl, Nat.one_mul]) (fun j u hu => ?_)
    (fun u hu => List.all_eq_true.1 h1 u hu) (by omega) h63 hb (by simp; omega) _ rfl ?_
  · rw [Addr.add_lit, Nat.zero_add]; exact ((Blk.new w e' news).cell j).trans hu
  · intro g cap w' h2 h3 h4 h5
    exact h g cap w' h2 ⟨h3.os, h3.tape, h3.output, Nat.le_trans (by simp) h3.size, fun k hk hne => (h3.block k (by simp; omega) hne).trans (Below.heap_alloc w _ k hk)⟩
end
theorem u8_one (x : UInt8) : (((x.toNat : Nat) : Int) == 1) = (x == 1) := by
  rw [Bool.eq_iff_iff, beq_iff_eq, beq_iff_eq]
  constructor
  · intro h
    have h2 : x.toNat = (1 : UInt8).toNat := by have : x.toNat = 1 := by omega
                                                exact this
    exact UInt8.toNat_inj.1 h2
  · intro h; subst h; rfl
theorem hcz_step (l : Sn.By) (i : Nat) : hcz ((List.range (i + 1)).map (Sn.hOf l)) = hcz ((List.range i).map (Sn.hOf l)) ++ [.int .u64 (Sn.hOf l i).1, .int .u64 (Sn.hOf l i).2] := by
  rw [List.range_succ, List.map_append, ← hcz_app]; rfl
theorem sls_step (l : Sn.By) (a i : Nat) : sls ((List.range (i + 1)).map (Sn.sOf l a)) = sls ((List.range i).map (Sn.sOf l a)) ++ [.bool (Sn.sOf l a i).1, .int .u64 (Sn.sOf l a i).2] := by
  rw [List.range_succ, List.map_append, ← sls_app]; rfl
theorem eds_step (l : Sn.By) (a i : Nat) : eds ((List.range (i + 1)).map (Sn.eOf l a)) = eds ((List.range i).map (Sn.eOf l a)) ++ [.int .i64 (Sn.eOf l a i).1, .int .i64 (Sn.eOf l a i).2.1, .int .i64 (Sn.eOf l a i).2.2] := by
  rw [List.range_succ, List.map_append, ← eds_app]; rfl
theorem own_to {w : World} {base n sz : Nat} {e : TypeId} {v : Value} {xs ys : List Value} (h : w.ownsRow base e sz v n xs) (hx : xs = ys) : w.ownsRow base e sz v n ys := by subst hx; exact h
set_option maxRecDepth 100000 in
set_option maxHeartbeats 32000000 in
theorem par_yes {l : Sn.By} {w : World} (hl : l.length ≤ 100000) (hf : Sn.Fits l) : Calls Try.prog 36 #[.string (str l)] w (ParPost w (Sn.told l) true) := by
  replace hl : l.length ≤ 1000000 := by omega
  obtain ⟨s, hs⟩ : ∃ s, s = str l := ⟨_, rfl⟩
  have hsz : s.size = l.length := by rw [hs]; exact str_size l
  have HG : Hid (∀ i, (h1 : i < s.size) → (s[i]).toNat = (l.getD i 0).toNat) := hid (by subst hs; intro i h1; rw [str_size] at h1; simp [str_get, List.getD, h1]; rfl)
  rw [← hs]
  have HS := hid hs
  clear hs
  obtain ⟨f1, f2, f3, f4, f5, f6, f7⟩ := hf
  obtain ⟨n, hn⟩ : ∃ n, Sn.num l 4 2 = n := ⟨_, rfl⟩
  try rw [hn] at f2
  rw [hn] at f5 f6 f7
  have HA1 : Hid (∀ w : World, Calls Try.prog 49 #[.string s, .int .i64 4, .int .i64 2] w fun e w' => e = .returned (.int .u64 (n : Int)) ∧ w = w') := hid (fun w => num_any s HS.out (by decide) (by omega) hl n hn _ 2 (by omega) rfl w)
  have Hn := hid hn
  clear hn
  obtain ⟨L, hL⟩ : ∃ L, Sn.num l 6 2 = L := ⟨_, rfl⟩
  try rw [hL] at f3
  rw [hL] at f5 f6 f7
  have HA2 : Hid (∀ w : World, Calls Try.prog 49 #[.string s, .int .i64 6, .int .i64 2] w fun e w' => e = .returned (.int .u64 (L : Int)) ∧ w = w') := hid (fun w => num_any s HS.out (by decide) (by omega) hl L hL _ 2 (by omega) rfl w)
  have HL := hid hL
  clear hL
  obtain ⟨R, hR⟩ : ∃ R, Sn.num l 8 2 = R := ⟨_, rfl⟩
  try rw [hR] at f4
  rw [hR] at f5 f6 f7
  have HA3 : Hid (∀ w : World, Calls Try.prog 49 #[.string s, .int .i64 8, .int .i64 2] w fun e w' => e = .returned (.int .u64 (R : Int)) ∧ w = w') := hid (fun w => num_any s HS.out (by decide) (by omega) hl R hR _ 2 (by omega) rfl w)
  have HR := hid hR
  clear hR
  obtain ⟨lr, hlr⟩ : ∃ lr : Nat, L * R = lr := ⟨_, rfl⟩
  have lrb : lr ≤ 128 := by rw [← hlr]; exact Nat.mul_le_mul (show L ≤ 16 by omega) (show R ≤ 8 by omega)
  have hlr2 : (L : Int) * (R : Int) = (lr : Int) := by rw [← hlr]; exact (Int.natCast_mul L R).symm
  have HLR := hid hlr
  obtain ⟨F, hF⟩ : ∃ F : Nat, 14 + lr * 16 + n * 9 = F := ⟨_, rfl⟩
  have hF2 : 10 + (lr : Int) * 16 + (n : Int) * 9 + 4 = (F : Int) := by omega
  have Fb : F ≤ 20000 := by omega
  have Fb0 : 14 ≤ F := by omega
  have hFx : Sn.fixedOf n L R = F := by unfold Sn.fixedOf; rw [hlr]; exact hF
  rw [hFx] at f5 f6 f7
  have HF := hid hF
  have HFx := hid hFx
  clear hF hlr hFx
  have c0 : ¬ (l.length : Int) < 10 := by omega
  have c1 : (n : Int) ≤ 1024 := by omega
  have c2 : (L : Int) ≤ 16 := by omega
  have c3 : (R : Int) ≤ 8 := by omega
  have c4 : (F : Int) + 8 ≤ (l.length : Int) := by omega
  obtain ⟨T, hT⟩ : ∃ T : Nat, l.length - F - 8 = T := ⟨_, rfl⟩
  rw [hT] at f6 f7
  have hT2 : (l.length : Int) - (F : Int) - 8 = (T : Int) := by omega
  have Tb : T ≤ 1000000 := by omega
  obtain ⟨q, hq⟩ : ∃ q : Nat, T / 5 = q := ⟨_, rfl⟩
  rw [hq] at f7
  have HT := hid hT
  have HQ := hid hq
  have hTq : T = 5 * q := by omega
  have HTQ : Hid (l.length = F + 8 + 5 * q) := hid (by omega)
  have HA4 : Hid (∀ w : World, Calls Try.prog 49 #[.string s, .int .i64 ((F : Int) - 4), .int .i64 4] w fun e w' => e = .returned (.int .u64 (q : Int)) ∧ w = w') := hid (fun w => num_any s HS.out (by decide) (by omega) hl q f7 _ 4 (by omega) rfl w)
  have d5 : ((T : Int) % 5 != 0) = false := by simp; omega
  have d6 : (T : Int) % 5 = 0 := by omega
  have hq2 : (T : Int) / 5 = (q : Int) := by omega
  have qb : q ≤ 1000000 := by omega
  have d7 : ((q : Int) != (q : Int)) = false := by simp
  obtain ⟨S1, hS1⟩ : ∃ S1, S1 = Sn.told l := ⟨_, rfl⟩
  rw [← hS1]
  have HS1 : Hid (S1 = { N := (n : Int), L := (L : Int), R := (R : Int), hs := (List.range lr).map (Sn.hOf l), ss := (List.range n).map (Sn.sOf l (10 + lr * 16)), es := (List.range q).map (Sn.eOf l F) }) := hid (by rw [hS1]; unfold Sn.told; rw [Hn.out, HL.out, HR.out, HLR.out, HFx.out, HT.out, HQ.out])
  clear hS1
  clear hT hq hTq f1 f2 f3 f4 f5 f6 f7
  go_enter Try.func36, Try.ntmps36
  go_wp2_with fail
  refine (HA1.out _).mono ?_; rintro e _ ⟨rfl, rfl⟩
  go_wp2_with fail
  refine (HA2.out _).mono ?_; rintro e _ ⟨rfl, rfl⟩
  go_wp2_with fail
  refine (HA3.out _).mono ?_; rintro e _ ⟨rfl, rfl⟩
  go_wp2_with fail
  refine (HA4.out _).mono ?_; rintro e _ ⟨rfl, rfl⟩
  go_wp2_with fail
  obtain ⟨w3, hw3⟩ : ∃ W, W = ((w.alloc (.cells #[.int .i64 0, .int .i64 0, .int .i64 0, .slice none 0 0, .slice none 0 0, .slice none 0 0] 30)).alloc (.cells #[.int .i64 (n : Int), .int .i64 (L : Int), .int .i64 (R : Int), .slice none 0 0, .slice none 0 0, .slice none 0 0] 30)).alloc (.cells #[.int .i64 (n : Int), .int .i64 (L : Int), .int .i64 (R : Int)] 23) := ⟨_, rfl⟩
  obtain ⟨KR, hKR⟩ : ∃ K, K = w.heap.size := ⟨_, rfl⟩
  obtain ⟨KS, hKS⟩ : ∃ K, K = w.heap.size + 1 := ⟨_, rfl⟩
  obtain ⟨KC, hKC⟩ : ∃ K, K = w.heap.size + 1 + 1 := ⟨_, rfl⟩
  have HB3 : Hid (Below w.heap.size w w3) := hid (by rw [hw3]; exact Bl.new (Bl.new (bel_new _ _) _) _)
  have DR : Hid (Blk w3 KR 30 [.int .i64 0, .int .i64 0, .int .i64 0, .slice none 0 0, .slice none 0 0, .slice none 0 0]) := hid (by rw [hw3, hKR]; exact ((Blk.new _ _ _).alloc _).alloc _)
  have DS : Hid (Blk w3 KS 30 [.int .i64 (n : Int), .int .i64 (L : Int), .int .i64 (R : Int), .slice none 0 0, .slice none 0 0, .slice none 0 0]) := hid (by rw [hw3, hKS]; have := (Blk.new (w.alloc (.cells #[.int .i64 0, .int .i64 0, .int .i64 0, .slice none 0 0, .slice none 0 0, .slice none 0 0] 30)) 30 [.int .i64 (n : Int), .int .i64 (L : Int), .int .i64 (R : Int), .slice none 0 0, .slice none 0 0, .slice none 0 0]).alloc (.cells #[.int .i64 (n : Int), .int .i64 (L : Int), .int .i64 (R : Int)] 23); simpa using this)
  have DC : Hid (Blk w3 KC 23 [.int .i64 (n : Int), .int .i64 (L : Int), .int .i64 (R : Int)]) := hid (by rw [hw3, hKC]; have := Blk.new ((w.alloc (.cells #[.int .i64 0, .int .i64 0, .int .i64 0, .slice none 0 0, .slice none 0 0, .slice none 0 0] 30)).alloc (.cells #[.int .i64 (n : Int), .int .i64 (L : Int), .int .i64 (R : Int), .slice none 0 0, .slice none 0 0, .slice none 0 0] 30)) 23 [.int .i64 (n : Int), .int .i64 (L : Int), .int .i64 (R : Int)]; simpa using this)
  have HK : Hid (KR = w.heap.size ∧ KS = w.heap.size + 1 ∧ KC = w.heap.size + 2 ∧ w3.heap.size = w.heap.size + 3) := hid ⟨hKR, hKS, hKC, by rw [hw3]; simp⟩
  rw [← hKC, ← hKS, ← hKR, ← hw3]
  clear hw3 hKR hKS hKC d5 d6 d7 hT2 hF2 hlr2
  go_loopw [8, 83] (fun av iv wr => ∃ (i a c1 : Nat) (A1 : Option Addr), iv = .int .i64 (i : Int) ∧ i ≤ lr ∧ av = .int .i64 (a : Int) ∧ Hid (a = 10 + 16 * i) ∧ Hid (Blk wr KS 30 [.int .i64 (n : Int), .int .i64 (L : Int), .int .i64 (R : Int), .slice A1 i c1, .slice none 0 0, .slice none 0 0]) ∧ Hid (wr.ownsRow w3.heap.size 59 2 (.slice A1 i c1) i (hcz ((List.range i).map (Sn.hOf l)))) ∧ Hid (Only KS w3 wr)) (fun _ iv _ => lr - (intOf iv).toNat)
  case atStart => exact ⟨0, 10, 0, none, rfl, Nat.zero_le _, rfl, hid rfl, DS, hid (own_nil _ _ _ _), hid (Only.refl _ _)⟩
  case round =>
    obtain ⟨i, a, c1, A1, rfl, hi, rfl, HA, D, O, ON⟩ := hrel
    clear DS
    obtain ⟨w4, rfl⟩ : ∃ x, x = wr := ⟨wr, rfl⟩
    by_cases hlt : i < lr
    case pos =>
      have j0 : (i : Int) < (lr : Int) := by omega
      obtain ⟨x, hx⟩ : ∃ x, Sn.num l a 8 = x := ⟨_, rfl⟩
      obtain ⟨y, hy⟩ : ∃ y, Sn.num l (a + 8) 8 = y := ⟨_, rfl⟩
      have hlen : a + 16 ≤ l.length := by have := HTQ.out; have := HF.out; have := HA.out; omega
      have G1 : Hid (∀ w : World, Calls Try.prog 49 #[.string s, .int .i64 (a : Int), .int .i64 8] w fun e w' => e = .returned (.int .u64 (x : Int)) ∧ w = w') := hid (fun w => num_any s HS.out (by decide) (by omega) hl x hx _ 8 (by omega) rfl w)
      have G2 : Hid (∀ w : World, Calls Try.prog 49 #[.string s, .int .i64 ((a : Int) + 8), .int .i64 8] w fun e w' => e = .returned (.int .u64 (y : Int)) ∧ w = w') := hid (fun w => num_any s HS.out (by decide) (by omega) hl y hy _ 8 (by omega) rfl w)
      have nk : KS < w4.heap.size := D.out.lt
      have HX : Hid (Sn.hOf l i = ((x : Int), (y : Int))) := hid (by unfold Sn.hOf; rw [← HA.out, hx, hy])
      have x3 := D.out.cell 3
      have hsz3 : w3.heap.size ≤ w4.heap.size := ON.out.size
      have hb1 : (i + 1) * 16 ≤ 140737488355328 := by omega
      have ws : IntKind.i64.wrap ((a : Int) + 8) = (a : Int) + 8 := IntWalk.i64_in _ (by omega)
      have HKS3 : Hid (KS < w3.heap.size) := hid (by have := HK.out; omega)
      have ab : a ≤ 30000 := by have := HA.out; omega
      clear hx hy hlen
      go_wp2_with fail
      go_region_law (first | (go_simp; go_at_call 49; (with_reducible refine (G1.out _).mono ?_); rintro e _ ⟨rfl, rfl⟩) | (go_simp; go_at_call 49; (with_reducible refine (G2.out _).mono ?_); rintro e _ ⟨rfl, rfl⟩) | (refine step_app1q (v := .slice A1 i c1) rfl _ _ Thsh rfl rfl O.out rfl rfl (qt_drew _) rfl rfl hb1 hsz3 ?_; intro g cap w7 o7 g7; have D7 := hid (blk_grow D.out O.out g7 HKS3.out); have z3 := D7.out.cell 3; have f3 := D7.out.frozen 3))
      all_goals
        have D8 := hid (D7.out.put 3 (.slice (some ⟨g, 0, none⟩) (i + 1) cap))
        have O8 := hid (own_only (own_to o7 (show _ = hcz ((List.range (i + 1)).map (Sn.hOf l)) by rw [hcz_step, HX.out])) ((Only.refl KS w7).put 3 (.slice (some ⟨g, 0, none⟩) (i + 1) cap)) HKS3.out)
        have ON8 := hid ((only_grow ON.out O.out (Nat.le_refl _) g7).put 3 (.slice (some ⟨g, 0, none⟩) (i + 1) cap))
        clear z3 f3 o7 g7 D7 ws nk
        go_wp2_with fail
        go_roundw
        case rel => exact ⟨i + 1, a + 16, cap, some ⟨g, 0, none⟩, by go_num, by omega, by go_num, hid (by have := HA.out; omega), D8, O8, ON8⟩
        case measure => simp [intOf]; omega
    case neg =>
      obtain rfl : lr = i := by omega
      have j0 : ¬ (lr : Int) < (lr : Int) := by omega
      have x0 := (blk_only DC.out ON.out (by have := HK.out; omega)).cell 0
      go_wp2_with fail
      go_loopw [8, 105] (fun av iv wr => ∃ (j b c2 : Nat) (A2 : Option Addr), iv = .int .i64 (j : Int) ∧ j ≤ n ∧ av = .int .i64 (b : Int) ∧ Hid (b = a + 9 * j) ∧ Hid (Blk wr KS 30 [.int .i64 (n : Int), .int .i64 (L : Int), .int .i64 (R : Int), .slice A1 lr c1, .slice none 0 0, .slice A2 j c2]) ∧ Hid (wr.ownsRow w4.heap.size 63 2 (.slice A2 j c2) j (sls ((List.range j).map (Sn.sOf l (10 + lr * 16))))) ∧ Hid (Only KS w4 wr)) (fun _ iv _ => n - (intOf iv).toNat)
      case atStart => exact ⟨0, a, 0, none, rfl, Nat.zero_le _, rfl, hid rfl, D, hid (own_nil _ _ _ _), hid (Only.refl _ _)⟩
      case round =>
        have L4 := hid D.out.lt
        clear D x0 j0
        obtain ⟨j, b, c2, A2, rfl, hj, rfl, HB, D, P, PN⟩ := hrel
        obtain ⟨w5, rfl⟩ : ∃ x, x = wr := ⟨wr, rfl⟩
        by_cases hlt : j < n
        case pos =>
          have j0 : (j : Int) < (n : Int) := by omega
          obtain ⟨y, hy⟩ : ∃ y, Sn.num l (b + 1) 8 = y := ⟨_, rfl⟩
          have hlen : b + 9 ≤ l.length := by have := HTQ.out; have := HF.out; have := HA.out; have := HB.out; omega
          have G2 : Hid (∀ w : World, Calls Try.prog 49 #[.string s, .int .i64 ((b : Int) + 1), .int .i64 8] w fun e w' => e = .returned (.int .u64 (y : Int)) ∧ w = w') := hid (fun w => num_any s HS.out (by decide) (by omega) hl y hy _ 8 (by omega) rfl w)
          have hbs : b < s.size := by omega
          have hbs2 : (b : Int) < (l.length : Int) := by omega
          have HUB : Hid ((((s[b]).toNat : Int) == 1) = (l.getD b 0 == 1)) := hid (by rw [HG.out b hbs, u8_one])
          have nk : KS < w5.heap.size := D.out.lt
          have HX : Hid ((Sn.sOf l (10 + lr * 16) j) = (l.getD b 0 == 1, (y : Int))) := hid (by unfold Sn.sOf; rw [show 10 + lr * 16 + 9 * j = b by have := HA.out; have := HB.out; omega, hy])
          have x5 := D.out.cell 5
          have hsz4 : w4.heap.size ≤ w5.heap.size := PN.out.size
          have hb1 : (j + 1) * 16 ≤ 140737488355328 := by omega
          have ws : IntKind.i64.wrap ((b : Int) + 1) = (b : Int) + 1 := IntWalk.i64_in _ (by omega)
          have ab : b ≤ 1000000 := by omega
          clear hy hlen
          go_wp2_with fail
          go_region_law (first | (go_simp; go_at_call 49; (with_reducible refine (G2.out _).mono ?_); rintro e _ ⟨rfl, rfl⟩) | (refine step_app1q (v := .slice A2 j c2) rfl _ _ Tslt rfl rfl P.out rfl rfl (qt_drew _) rfl rfl hb1 hsz4 ?_; intro g cap w7 o7 g7; have D7 := hid (blk_grow D.out P.out g7 L4.out); have z3 := D7.out.cell 5; have f3 := D7.out.frozen 5))
          all_goals
            have D8 := hid (D7.out.put 5 (.slice (some ⟨g, 0, none⟩) (j + 1) cap))
            have O8 := hid (own_only (own_to o7 (show _ = sls ((List.range (j + 1)).map (Sn.sOf l (10 + lr * 16))) by rw [sls_step, HX.out, HUB.out])) ((Only.refl KS w7).put 5 (.slice (some ⟨g, 0, none⟩) (j + 1) cap)) L4.out)
            have ON8 := hid ((only_grow PN.out P.out (Nat.le_refl _) g7).put 5 (.slice (some ⟨g, 0, none⟩) (j + 1) cap))
            clear z3 f3 o7 g7 D7 ws nk
            go_wp2_with fail
            go_roundw
            case rel => exact ⟨j + 1, b + 9, cap, some ⟨g, 0, none⟩, by go_num, by omega, by go_num, hid (by have := HB.out; omega), D8, O8, ON8⟩
            case measure => simp [intOf]; omega
        case neg =>
          obtain rfl : n = j := by omega
          have j0 : ¬ (n : Int) < (n : Int) := by omega
          have HF3 : Hid (b + 4 = F) := hid (by have := HF.out; have := HA.out; have := HB.out; omega)
          have hF4 : (b : Int) + 4 = (F : Int) := by have := HF3.out; omega
          go_wp2_with fail
          go_loopw [8, 9, 128] (fun av ev iv wr => ∃ (k d c3 : Nat) (A3 : Option Addr), iv = .int .i64 (k : Int) ∧ k ≤ q ∧ av = .int .i64 (d : Int) ∧ Hid (d = F + 5 * k) ∧ Hid (Blk wr KS 30 [.int .i64 (n : Int), .int .i64 (L : Int), .int .i64 (R : Int), .slice A1 lr c1, .slice A3 k c3, .slice A2 n c2]) ∧ Hid (wr.ownsRow w5.heap.size 61 3 (.slice A3 k c3) k (eds ((List.range k).map (Sn.eOf l F)))) ∧ Hid (Only KS w5 wr)) (fun _ _ iv _ => q - (intOf iv).toNat)
          case atStart => exact ⟨0, F, 0, none, rfl, Nat.zero_le _, by first | rfl | go_num, hid rfl, D, hid (own_nil _ _ _ _), hid (Only.refl _ _)⟩
          case round =>
            have L5 := hid D.out.lt
            clear D hF4 j0
            obtain ⟨k, d, c3, A3, rfl, hk, rfl, HD, D, E, EN⟩ := hrel
            obtain ⟨w6, rfl⟩ : ∃ x, x = wr := ⟨wr, rfl⟩
            by_cases hlt : k < q
            case pos =>
              have j0 : (k : Int) < (q : Int) := by omega
              obtain ⟨x, hx⟩ : ∃ x, Sn.num l d 2 = x := ⟨_, rfl⟩
              obtain ⟨y, hy⟩ : ∃ y, Sn.num l (d + 2) 2 = y := ⟨_, rfl⟩
              have xb : x ≤ 65535 := by have := num_lt l d 2; rw [hx] at this; omega
              have yb : y ≤ 65535 := by have := num_lt l (d + 2) 2; rw [hy] at this; omega
              have hlen : d + 5 ≤ l.length := by have := HTQ.out; have := HD.out; omega
              have G1 : Hid (∀ w : World, Calls Try.prog 49 #[.string s, .int .i64 (d : Int), .int .i64 2] w fun e w' => e = .returned (.int .u64 (x : Int)) ∧ w = w') := hid (fun w => num_any s HS.out (by decide) (by omega) hl x hx _ 2 (by omega) rfl w)
              have G2 : Hid (∀ w : World, Calls Try.prog 49 #[.string s, .int .i64 ((d : Int) + 2), .int .i64 2] w fun e w' => e = .returned (.int .u64 (y : Int)) ∧ w = w') := hid (fun w => num_any s HS.out (by decide) (by omega) hl y hy _ 2 (by omega) rfl w)
              have hbs : d + 4 < s.size := by omega
              have hbs2 : (d : Int) + 4 < (l.length : Int) := by omega
              obtain ⟨z, hz⟩ : ∃ z, (l.getD (d + 4) 0).toNat = z := ⟨_, rfl⟩
              have hzz : (s[d + 4]).toNat = z := (HG.out (d + 4) hbs).trans hz
              have zb : z ≤ 255 := by have := (l.getD (d + 4) 0).toNat_lt; omega
              have nk : KS < w6.heap.size := D.out.lt
              have HX : Hid (Sn.eOf l F k = ((x : Int), (y : Int), (z : Int))) := hid (by unfold Sn.eOf; rw [← HD.out, hx, hy, hz])
              have hsz5 : w5.heap.size ≤ w6.heap.size := EN.out.size
              have hb1 : (k + 1) * 24 ≤ 140737488355328 := by omega
              have ws : IntKind.i64.wrap ((d : Int) + 2) = (d : Int) + 2 := IntWalk.i64_in _ (by omega)
              have ws4 : IntKind.i64.wrap ((d : Int) + 4) = (d : Int) + 4 := IntWalk.i64_in _ (by omega)
              have dn4 : ((d : Int) + 4).toNat = d + 4 := by omega
              have d04 : (0 : Int) ≤ (d : Int) + 4 := by omega
              have ab : d ≤ 1000000 := by omega
              have wx : IntKind.i64.wrap (x : Int) = (x : Int) := IntWalk.i64_in _ (by omega)
              have wy : IntKind.i64.wrap (y : Int) = (y : Int) := IntWalk.i64_in _ (by omega)
              have wz : IntKind.i64.wrap (z : Int) = (z : Int) := IntWalk.i64_in _ (by omega)
              clear hx hy hlen hz
              go_upto_region 28 with fail
              go_cut [9] (fun ev wx => ev = .pointer (some ⟨w6.heap.size, 0, none⟩) ∧ Qt (w6.alloc (.cells #[.int .i64 (x : Int), .int .i64 (y : Int), .int .i64 (z : Int)] 61)) wx)
              case first =>
                go_region_law (first | (go_simp; go_at_call 49; (with_reducible refine (G1.out _).mono ?_); rintro e _ ⟨rfl, rfl⟩) | (go_simp; go_at_call 49; (with_reducible refine (G2.out _).mono ?_); rintro e _ ⟨rfl, rfl⟩))
                all_goals
                  go_wp2_with fail
                  go_meet
                  exact ⟨rfl, qt_drew _⟩
              case rest =>
                clear ws ws4 dn4 d04 wx wy wz hzz
                obtain ⟨rfl, hq⟩ := hcut
                have DE := hid (Blk.below (Blk.new w6 61 [.int .i64 (x : Int), .int .i64 (y : Int), .int .i64 (z : Int)]) hq.bel (by simp))
                have D9 := hid ((D.out.alloc (.cells #[.int .i64 (x : Int), .int .i64 (y : Int), .int .i64 (z : Int)] 61)).below hq.bel (D.out.alloc _).lt)
                have E9 := hid (own_below (E.out.alloc (.cells #[.int .i64 (x : Int), .int .i64 (y : Int), .int .i64 (z : Int)] 61)) hq.bel)
                have EN9 := hid (only_qt (only_below EN.out (bel_new w6 (.cells #[.int .i64 (x : Int), .int .i64 (y : Int), .int .i64 (z : Int)] 61))) hq)
                have hszc : w5.heap.size ≤ wc.heap.size := EN9.out.size
                have nkc : KS < wc.heap.size := D9.out.lt
                have nke : w6.heap.size < wc.heap.size := DE.out.lt
                obtain ⟨KE, hKE⟩ : ∃ K, K = w6.heap.size := ⟨_, rfl⟩
                rw [← hKE] at DE nke
                rw [← hKE]
                clear hKE hq nk
                have y0 := DE.out.cell 0
                have y1 := DE.out.cell 1
                have y2 := DE.out.cell 2
                have x4 := D9.out.cell 4
                go_wp2_with (at_builtin; (refine wl_app1g (v := .slice A3 k c3) rfl _ _ Tedg rfl rfl E9.out rfl rfl rfl rfl hb1 hszc ?_))
                intro g cap w8 o8 g8
                have D10 := hid (blk_grow D9.out E9.out g8 L5.out)
                have z3 := D10.out.cell 4
                have f3 := D10.out.frozen 4
                have D8 := hid (D10.out.put 4 (.slice (some ⟨g, 0, none⟩) (k + 1) cap))
                have O8 := hid (own_only (own_to o8 (show _ = eds ((List.range (k + 1)).map (Sn.eOf l F)) by rw [eds_step, HX.out])) ((Only.refl KS w8).put 4 (.slice (some ⟨g, 0, none⟩) (k + 1) cap)) L5.out)
                have ON8 := hid ((only_grow EN9.out E9.out (Nat.le_refl _) g8).put 4 (.slice (some ⟨g, 0, none⟩) (k + 1) cap))
                clear y0 y1 y2 x4 o8 g8 D10
                go_wp2_with fail
                go_roundw
                case rel => exact ⟨k + 1, d + 5, cap, some ⟨g, 0, none⟩, by go_num, by omega, by go_num, hid (by have := HD.out; omega), D8, O8, ON8⟩
                case measure => simp [intOf]; omega
            case neg =>
              obtain rfl : q = k := by omega
              have j0 : ¬ (q : Int) < (q : Int) := by omega
              have HKK : Hid (KR ≠ KS ∧ KR < w3.heap.size ∧ KS < w3.heap.size) := hid (by have := HK.out; omega)
              have R6 := hid (blk_only (blk_only (blk_only DR.out ON.out HKK.out.1) PN.out HKK.out.1) EN.out HKK.out.1)
              have O6 := hid (own_only (own_only O.out PN.out HKK.out.2.2) EN.out HKK.out.2.2)
              have P6 := hid (own_only P.out EN.out L4.out)
              have B6 := hid (HB3.out.trans ((ON.out.below (B := w.heap.size) (by have := HK.out; omega) HB3.out.size).trans ((PN.out.below (B := w.heap.size) (by have := HK.out; omega) (Nat.le_trans HB3.out.size ON.out.size)).trans (EN.out.below (B := w.heap.size) (by have := HK.out; omega) (Nat.le_trans HB3.out.size (Nat.le_trans ON.out.size PN.out.size))))))
              have d0 := D.out.cell 0
              have d1 := D.out.cell 1
              have d2 := D.out.cell 2
              have d3 := D.out.cell 3
              have d4 := D.out.cell 4
              have d5 := D.out.cell 5
              have r0 := R6.out.cell 0
              have r1 := R6.out.cell 1
              have r2 := R6.out.cell 2
              have r3 := R6.out.cell 3
              have r4 := R6.out.cell 4
              have r5 := R6.out.cell 5
              have f0 := R6.out.frozen 0
              have f1 := R6.out.frozen 1
              have f2 := R6.out.frozen 2
              have f3 := R6.out.frozen 3
              have f4 := R6.out.frozen 4
              have f5 := R6.out.frozen 5
              go_wp2_with fail
              have Q6 := hid ((((((R6.out.put 0 (.int .i64 (n : Int))).put 1 (.int .i64 (L : Int))).put 2 (.int .i64 (R : Int))).put 3 (.slice A1 lr c1)).put 4 (.slice A3 q c3)).put 5 (.slice A2 n c2))
              have N6 := hid (((((((Only.refl KR w6).put 0 (.int .i64 (n : Int))).put 1 (.int .i64 (L : Int))).put 2 (.int .i64 (R : Int))).put 3 (.slice A1 lr c1)).put 4 (.slice A3 q c3)).put 5 (.slice A2 n c2))
              generalize (((((w6.setCell ⟨KR, 0, none⟩ (.int .i64 (n : Int))).setCell ⟨KR, 1, none⟩ (.int .i64 (L : Int))).setCell ⟨KR, 2, none⟩ (.int .i64 (R : Int))).setCell ⟨KR, 3, none⟩ (.slice A1 lr c1)).setCell ⟨KR, 4, none⟩ (.slice A3 q c3)).setCell ⟨KR, 5, none⟩ (.slice A2 n c2) = w9 at *
              have t0 := Q6.out.cell 0
              have t1 := Q6.out.cell 1
              have t2 := Q6.out.cell 2
              have t3 := Q6.out.cell 3
              have t4 := Q6.out.cell 4
              have t5 := Q6.out.cell 5
              refine bodyPost_ret (v := .tuple #[.agg #[.int .i64 (n : Int), .int .i64 (L : Int), .int .i64 (R : Int), .slice A1 lr c1, .slice A3 q c3, .slice A2 n c2], .bool true]) (by simp [results, Try.results36, go_sem, t0, t1, t2, t3, t4, t5]) rfl ⟨.slice A1 lr c1, .slice A3 q c3, .slice A2 n c2, lr, q, n, by rw [HS1.out]; rfl, ?_, B6.out.trans (N6.out.below (by have := HK.out; omega) (B6.out.size))⟩
              rw [HS1.out]
              exact ⟨own_more (own_only O6.out N6.out HKK.out.2.1) HB3.out.size, own_more (own_only E.out N6.out (by have := HKK.out.2.1; have := ON.out.size; have := PN.out.size; omega)) (Nat.le_trans HB3.out.size (Nat.le_trans ON.out.size PN.out.size)), own_more (own_only P6.out N6.out (by have := HKK.out.2.1; have := ON.out.size; omega)) (Nat.le_trans HB3.out.size ON.out.size)⟩
end Go.Proofs.Ytbafbnkmmpaomaa
