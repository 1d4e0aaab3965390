/- The search through a forest from one vertex on. Plain mathematics, no program in sight. -/
import Derived.Test.YtholhmdmpomabaaGrovePlain
namespace Pt
set_option linter.unusedVariables false

def atB (l : List PE) (x : Int) (i : Nat) : Bool := match l[i]? with | some e => decide (e.1 = x ∨ e.2 = x) | none => false
/-- The places of the edges at x, among the first k. -/
def starK (l : List PE) (x : Int) (k : Nat) : List Nat := (List.range k).filter (atB l x)
theorem starK_zero (l : List PE) (x : Int) : starK l x 0 = [] := rfl
theorem starK_yes {l : List PE} {x : Int} {k : Nat} {e : PE} (hk : l[k]? = some e) (h : e.1 = x ∨ e.2 = x) : starK l x (k + 1) = starK l x k ++ [k] := by
  simp [starK, List.range_succ, List.filter_append, atB, hk, h]
theorem starK_no {l : List PE} {x : Int} {k : Nat} {e : PE} (hk : l[k]? = some e) (h : ¬ (e.1 = x ∨ e.2 = x)) : starK l x (k + 1) = starK l x k := by
  simp only [starK, List.range_succ, List.filter_append]
  have : atB l x k = false := by simp only [atB, hk]; exact decide_eq_false h
  simp [this]
theorem starK_nodup (l : List PE) (x : Int) (k : Nat) : (starK l x k).Nodup := List.Pairwise.filter _ List.nodup_range
theorem starK_len (l : List PE) (x : Int) (k : Nat) : (starK l x k).length ≤ k := by
  have := List.length_filter_le (atB l x) (List.range k)
  simpa [starK] using this
theorem starK_mem {l : List PE} {x : Int} {i : Nat} : i ∈ starK l x l.length ↔ ∃ e, l[i]? = some e ∧ (e.1 = x ∨ e.2 = x) := by
  unfold starK atB
  rw [List.mem_filter, List.mem_range]
  constructor
  · rintro ⟨_, h⟩
    cases he : l[i]? with
    | none => rw [he] at h; simp at h
    | some e => rw [he] at h; exact ⟨e, rfl, by simpa using h⟩
  · rintro ⟨e, he, h⟩
    refine ⟨(List.getElem?_eq_some_iff.1 he).1, ?_⟩
    rw [he]; simpa using h

/-- The search, as far as it has come: os: the vertices that it has come to; the first h of them are done with, and of the next one the edges S. -/
def Bf (n : Nat) (l : List PE) (v : Int) (lead os : List Int) (h : Nat) (S : List Nat) : Prop :=
  lead.length = n ∧ os.Nodup ∧ (∀ x ∈ os, InR n x) ∧ os[0]? = some v ∧ g lead v = -1 ∧ (∀ x, InR n x → x ∉ os → g lead x = -1) ∧
  (∀ (j : Nat) y, 0 < j → os[j]? = some y → ∃ (i : Nat) (e : PE), g lead y = (i : Int) ∧ l[i]? = some e ∧ (e.1 = y ∨ e.2 = y) ∧ ∃ j', j' < j ∧ os[j']? = some (oth e y) ∧ (j' < h ∨ (j' = h ∧ i ∈ S))) ∧
  (∀ (j : Nat) x, os[j]? = some x → ∀ (i : Nat) (e : PE), l[i]? = some e → (e.1 = x ∨ e.2 = x) → (j < h ∨ (j = h ∧ i ∈ S)) → oth e x ∈ os)

theorem g_rep {n : Nat} {x : Int} (hx : InR n x) : g (List.replicate n (-1)) x = -1 := by
  unfold InR at hx
  have : x.toNat < n := by omega
  simp [g, List.getD, this]
theorem Bf.start {n : Nat} {l : List PE} {v : Int} (hv : InR n v) : Bf n l v (List.replicate n (-1)) [v] 0 [] := by
  refine ⟨by simp, by simp, by simp [hv], rfl, g_rep hv, fun x hx _ => g_rep hx, fun j y hj hy => ?_, fun j x hj i e _ _ h => ?_⟩
  · rw [List.getElem?_eq_none (by simp; omega)] at hy; cases hy
  · rcases h with h | ⟨_, h⟩
    · omega
    · simp at h

theorem nd_at {os : List Int} (hn : os.Nodup) {i j : Nat} {x : Int} (hi : os[i]? = some x) (hj : os[j]? = some x) : i = j := by
  obtain ⟨a, ha⟩ := List.getElem?_eq_some_iff.1 hi
  obtain ⟨b, hb⟩ := List.getElem?_eq_some_iff.1 hj
  have h1 := hn.idxOf_getElem i a
  have h2 := hn.idxOf_getElem j b
  rw [ha] at h1
  rw [hb] at h2
  omega

theorem Bf.skip {n : Nat} {l : List PE} {v : Int} {lead os : List Int} {h : Nat} {S : List Nat} (hb : Bf n l v lead os h S) {x : Int} (hx : os[h]? = some x) {i : Nat} {e : PE} (hi : l[i]? = some e) (he : g lead x = (i : Int)) :
    Bf n l v lead os h (S ++ [i]) := by
  obtain ⟨b1, b2, b3, b4, b5, b6, b7, b8⟩ := hb
  refine ⟨b1, b2, b3, b4, b5, b6, fun j y hj hy => ?_, fun j y hj i' e' h1 h2 h3 => ?_⟩
  · obtain ⟨i', e', c1, c2, c3, j', c4, c5, c6⟩ := b7 j y hj hy
    exact ⟨i', e', c1, c2, c3, j', c4, c5, c6.imp id fun ⟨a, b⟩ => ⟨a, by simp [b]⟩⟩
  · rcases h3 with h3 | ⟨h3, h4⟩
    · exact b8 j y hj i' e' h1 h2 (.inl h3)
    · rcases List.mem_append.1 h4 with h4 | h4
      · exact b8 j y hj i' e' h1 h2 (.inr ⟨h3, h4⟩)
      · simp at h4
        subst h4 h3
        rw [hx] at hj; injection hj with hj; subst hj
        have h0 : 0 < j := by
          rcases Nat.eq_zero_or_pos j with h0 | h0
          · subst h0
            rw [b4] at hx; injection hx with hx; subst hx
            omega
          · exact h0
        obtain ⟨i'', e2, c1, c2, c3, j', c4, c5, c6⟩ := b7 j x h0 hx
        have : i'' = i' := by omega
        subst this
        rw [h1] at c2; injection c2 with c2; subst c2
        exact List.mem_of_getElem? c5

/-- All that the search has come to is connected with v without the edge i, if nothing was told i. -/
theorem Bf.cn {n : Nat} {l : List PE} {v : Int} {lead os : List Int} {h : Nat} {S : List Nat} (hl : MayL n l) (hb : Bf n l v lead os h S) {i : Nat} (hi : ∀ y ∈ os, g lead y ≠ (i : Int)) :
    ∀ (j : Nat) y, os[j]? = some y → Cn n (l.eraseIdx i) y v := by
  obtain ⟨b1, b2, b3, b4, b5, b6, b7, b8⟩ := hb
  intro j
  induction j using Nat.strongRecOn with
  | _ j ih =>
    intro y hy
    rcases Nat.eq_zero_or_pos j with h0 | h0
    · subst h0
      rw [b4] at hy; injection hy with hy; subst hy
      rfl
    · obtain ⟨i', e, c1, c2, c3, j', c4, c5, c6⟩ := b7 j y h0 hy
      have hne : i' ≠ i := fun h => hi y (List.mem_of_getElem? hy) (by rw [← h]; exact c1)
      have d1 := ih j' c4 _ c5
      have d2 : Cn n (l.eraseIdx i) y (oth e y) := (oth_eq (g (partOf n (l.eraseIdx i))) c3).1 (Cn.edge (hl.sub fun _ h => mem_erase h) (erase_mem c2 hne))
      unfold Cn at d1 d2 ⊢
      rw [d2, d1]

theorem g_set_ne {lead : List Int} {y : Int} {z : Int} {x : Int} (hx : InR lead.length x) (hne : x ≠ y) (hy : 0 ≤ y) : g (lead.set y.toNat z) x = g lead x := by
  rw [g_set _ _ _ _ hx, if_neg]
  unfold InR at hx; omega
theorem g_set_at {lead : List Int} {y : Int} {z : Int} (hy : InR lead.length y) : g (lead.set y.toNat z) y = z := by
  rw [g_set _ _ _ _ hy, if_pos rfl]

theorem Bf.fresh {n : Nat} {l : List PE} (hf : Fst n l) {v : Int} {lead os : List Int} {h : Nat} {S : List Nat} (hb : Bf n l v lead os h S) {x : Int} (hx : os[h]? = some x) {i : Nat} {e : PE} (hi : l[i]? = some e) (hex : e.1 = x ∨ e.2 = x) (hS : i ∉ S) (he : g lead x ≠ (i : Int)) : oth e x ∉ os := by
  intro hy
  have hbr := hf.bridge hi
  have key : ∀ z ∈ os, g lead z ≠ (i : Int) := by
    intro z hz hzi
    obtain ⟨j, hj⟩ := List.mem_iff_getElem?.1 hz
    obtain ⟨b1, b2, b3, b4, b5, b6, b7, b8⟩ := hb
    have h0 : 0 < j := by
      rcases Nat.eq_zero_or_pos j with h0 | h0
      · subst h0
        rw [b4] at hj; injection hj with hj; subst hj
        omega
      · exact h0
    obtain ⟨i', e', c1, c2, c3, j', c4, c5, c6⟩ := b7 j z h0 hj
    have : i' = i := by omega
    subst this
    rw [hi] at c2; injection c2 with c2; subst c2
    have hzx : z ≠ x := fun h => he (by rw [← h]; exact hzi)
    have hozx : oth e z = x := by
      rcases oth_cases hex with ⟨a1, a2⟩ | ⟨a1, a2⟩ <;> rcases oth_cases c3 with ⟨d1, d2⟩ | ⟨d1, d2⟩ <;> omega
    rw [hozx] at c5
    have := nd_at b2 c5 hx
    subst this
    rcases c6 with h | ⟨_, h⟩
    · omega
    · exact hS h
  obtain ⟨j, hj⟩ := List.mem_iff_getElem?.1 hy
  have d1 := hb.cn hf.1 key _ _ hj
  have d2 := hb.cn hf.1 key _ _ hx
  refine hbr.2 ((oth_eq (g (partOf n (l.eraseIdx i))) hex).2 ?_)
  unfold Cn at d1 d2
  rw [d2, d1]

theorem Bf.new {n : Nat} {l : List PE} (hf : Fst n l) {v : Int} {lead os : List Int} {h : Nat} {S : List Nat} (hb : Bf n l v lead os h S) {x : Int} (hx : os[h]? = some x) {i : Nat} {e : PE} (hi : l[i]? = some e) (hex : e.1 = x ∨ e.2 = x) (hS : i ∉ S) (he : g lead x ≠ (i : Int)) :
    Bf n l v (lead.set (oth e x).toNat (i : Int)) (os ++ [oth e x]) h (S ++ [i]) := by
  have hy := hb.fresh hf hx hi hex hS he
  have hyr := oth_in (hf.1 e (List.mem_of_getElem? hi)) x
  have hhx : e.1 = oth e x ∨ e.2 = oth e x := oth_end hex
  have hoo := oth_oth hex
  generalize oth e x = y at *
  obtain ⟨b1, b2, b3, b4, b5, b6, b7, b8⟩ := hb
  have hvo : v ∈ os := List.mem_of_getElem? b4
  have hlt := (List.getElem?_eq_some_iff.1 hx).1
  have keep : ∀ z ∈ os, g (lead.set y.toNat (i : Int)) z = g lead z := fun z hz => g_set_ne (by rw [b1]; exact b3 z hz) (fun h => hy (h ▸ hz)) hyr.1
  refine ⟨by simp [b1], ?_, ?_, ?_, ?_, ?_, ?_, ?_⟩
  · rw [List.nodup_append]
    exact ⟨b2, by simp, fun a ha b hb => by simp at hb; subst hb; exact fun h => hy (h ▸ ha)⟩
  · intro z hz
    rcases List.mem_append.1 hz with hz | hz
    · exact b3 z hz
    · simp at hz; subst hz; exact hyr
  · rw [List.getElem?_append_left (by omega)]; exact b4
  · rw [keep v hvo]; exact b5
  · intro z hzr hz
    rw [g_set_ne (by rw [b1]; exact hzr) (fun h => hz (by simp [h])) hyr.1]
    exact b6 z hzr fun h => hz (by simp [h])
  · intro j z h0 hj
    rcases Nat.lt_or_ge j os.length with hjl | hjl
    · rw [List.getElem?_append_left hjl] at hj
      obtain ⟨i', e', c1, c2, c3, j', c4, c5, c6⟩ := b7 j z h0 hj
      refine ⟨i', e', by rw [keep z (List.mem_of_getElem? hj)]; exact c1, c2, c3, j', c4, ?_, c6.imp id fun ⟨a, b⟩ => ⟨a, by simp [b]⟩⟩
      rw [List.getElem?_append_left (by omega)]; exact c5
    · rw [List.getElem?_append_right hjl] at hj
      have : j = os.length := by
        rcases Nat.lt_or_ge (j - os.length) 1 with h | h
        · omega
        · rw [List.getElem?_eq_none (by simp; omega)] at hj; cases hj
      subst this
      simp at hj; subst hj
      refine ⟨i, e, by rw [g_set_at (by rw [b1]; exact hyr)], hi, hhx, h, hlt, ?_, .inr ⟨rfl, by simp⟩⟩
      rw [hoo, List.getElem?_append_left hlt]; exact hx
  · intro j z hj i' e' h1 h2 h3
    have hjl : j < os.length := by omega
    rw [List.getElem?_append_left hjl] at hj
    rcases h3 with h3 | ⟨h3, h4⟩
    · exact List.mem_append_left _ (b8 j z hj i' e' h1 h2 (.inl h3))
    · rcases List.mem_append.1 h4 with h4 | h4
      · exact List.mem_append_left _ (b8 j z hj i' e' h1 h2 (.inr ⟨h3, h4⟩))
      · simp at h4
        subst h4 h3
        rw [hx] at hj; injection hj with hj; subst hj
        rw [hi] at h1; injection h1 with h1; subst h1
        have : oth e x = y := by
          rcases oth_cases hex with ⟨a1, a2⟩ | ⟨a1, a2⟩ <;> rcases oth_cases hhx with ⟨d1, d2⟩ | ⟨d1, d2⟩ <;> omega
        rw [this]; simp

theorem Bf.next {n : Nat} {l : List PE} {v : Int} {lead os : List Int} {h : Nat} {x : Int} (hx : os[h]? = some x) (hb : Bf n l v lead os h (starK l x l.length)) : Bf n l v lead os (h + 1) [] := by
  obtain ⟨b1, b2, b3, b4, b5, b6, b7, b8⟩ := hb
  refine ⟨b1, b2, b3, b4, b5, b6, fun j y hj hy => ?_, fun j y hj i e h1 h2 h3 => ?_⟩
  · obtain ⟨i', e', c1, c2, c3, j', c4, c5, c6⟩ := b7 j y hj hy
    exact ⟨i', e', c1, c2, c3, j', c4, c5, .inl (by omega)⟩
  · rcases h3 with h3 | ⟨_, h3⟩
    · rcases Nat.lt_or_ge j h with h4 | h4
      · exact b8 j y hj i e h1 h2 (.inl h4)
      · have : j = h := by omega
        subst this
        rw [hx] at hj; injection hj with hj; subst hj
        exact b8 j x hx i e h1 h2 (.inr ⟨rfl, starK_mem.2 ⟨e, h1, h2⟩⟩)
    · simp at h3
theorem Bf.len {n : Nat} {l : List PE} {v : Int} {lead os : List Int} {h : Nat} {S : List Nat} (hb : Bf n l v lead os h S) : os.length ≤ n := Nodup_inR hb.2.1 hb.2.2.1

/-- What the search has found when it is done. -/
def LeadOk (n : Nat) (l : List PE) (v : Int) (lead : List Int) : Prop :=
  lead.length = n ∧ ∃ d : Int → Nat, ∀ x, InR n x → x ≠ v →
    (Cn n l x v ∧ ∃ (i : Nat) (e : PE), g lead x = (i : Int) ∧ l[i]? = some e ∧ (e.1 = x ∨ e.2 = x) ∧ d (oth e x) < d x) ∨ (¬ Cn n l x v ∧ g lead x = -1)

theorem Bf.done {n : Nat} {l : List PE} (hl : MayL n l) {v : Int} {lead os : List Int} {h : Nat} (hv : InR n v) (hh : os.length ≤ h) (hb : Bf n l v lead os h []) : LeadOk n l v lead := by
  have hb' := hb
  obtain ⟨b1, b2, b3, b4, b5, b6, b7, b8⟩ := hb
  have cl : ∀ e ∈ l, (decide (e.1 ∈ os)) = decide (e.2 ∈ os) := by
    intro e he
    obtain ⟨i, hi⟩ := List.mem_iff_getElem?.1 he
    have key : ∀ x, (e.1 = x ∨ e.2 = x) → x ∈ os → oth e x ∈ os := by
      intro x hx hxo
      obtain ⟨j, hj⟩ := List.mem_iff_getElem?.1 hxo
      exact b8 j x hj i e hi hx (.inl (by have := (List.getElem?_eq_some_iff.1 hj).1; omega))
    have k1 := key e.1 (.inl rfl)
    have k2 := key e.2 (.inr rfl)
    have o1 : oth e e.1 = e.2 := by simp [oth]
    have o2 : oth e e.2 = e.1 := by unfold oth; split <;> omega
    rw [o1] at k1; rw [o2] at k2
    by_cases h1 : e.1 ∈ os
    · simp [h1, k1 h1]
    · have : ¬ e.2 ∈ os := fun h => h1 (k2 h)
      simp [h1, this]
  have hvo : v ∈ os := List.mem_of_getElem? b4
  refine ⟨b1, fun x => os.idxOf x, fun x hx hne => ?_⟩
  by_cases hxo : x ∈ os
  · left
    obtain ⟨j, hj⟩ := List.mem_iff_getElem?.1 hxo
    have hc : Cn n l x v := by
      have := Bf.cn hl hb' (i := l.length) (fun y hy he => by
        obtain ⟨j, hj⟩ := List.mem_iff_getElem?.1 hy
        rcases Nat.eq_zero_or_pos j with h0 | h0
        · subst h0; rw [b4] at hj; injection hj with hj; subst hj; omega
        · obtain ⟨i', e', c1, c2, _⟩ := b7 j y h0 hj
          have : i' = l.length := by omega
          subst this
          rw [List.getElem?_eq_none (Nat.le_refl _)] at c2; cases c2) j x hj
      rwa [List.eraseIdx_of_length_le (Nat.le_refl _)] at this
    have h0 : 0 < j := by
      rcases Nat.eq_zero_or_pos j with h0 | h0
      · subst h0; rw [b4] at hj; injection hj with hj; exact absurd hj.symm hne
      · exact h0
    obtain ⟨i, e, c1, c2, c3, j', c4, c5, _⟩ := b7 j x h0 hj
    have ix : ∀ {j : Nat} {x : Int}, os[j]? = some x → os.idxOf x = j := by
      intro j x hj
      obtain ⟨a, ha⟩ := List.getElem?_eq_some_iff.1 hj
      have h1 := b2.idxOf_getElem j a
      rw [ha] at h1
      exact h1
    exact ⟨hc, i, e, c1, c2, c3, by show os.idxOf (oth e x) < os.idxOf x; rw [ix c5, ix hj]; exact c4⟩
  · right
    refine ⟨fun hc => hxo ?_, b6 x hx hxo⟩
    have := Cn.univ (fun y => decide (y ∈ os)) hl cl hx hv hc
    simpa [hvo] using this

/-- A way on which a rank falls. -/
def Dn (l : List PE) (d : Int → Nat) : Int → List Nat → Int → Prop
  | u, [], v => u = v
  | u, i :: is, v => ∃ e, l[i]? = some e ∧ (e.1 = u ∨ e.2 = u) ∧ d (oth e u) < d u ∧ Dn l d (oth e u) is v
theorem Dn.snoc {l : List PE} {d : Int → Nat} {i : Nat} {e : PE} (he : l[i]? = some e) {x : Int} (hx : e.1 = x ∨ e.2 = x) (hd : d (oth e x) < d x) : ∀ {p : List Nat} {u : Int}, Dn l d u p x → Dn l d u (p ++ [i]) (oth e x)
  | [], u, h => by simp [Dn] at h; subst h; exact ⟨e, he, hx, hd, rfl⟩
  | j :: p, u, h => by
    obtain ⟨e', hd', hu, hlt, ht⟩ := h
    exact ⟨e', hd', hu, hlt, ht.snoc he hx hd⟩
theorem Dn.sm {l : List PE} {d : Int → Nat} {v : Int} : ∀ {p : List Nat} {u : Int}, Dn l d u p v → Sm l u p v ∧ ∀ x ∈ Vs l u p, d x ≤ d u
  | [], u, h => ⟨⟨h, by simp [Vs]⟩, by simp [Vs]⟩
  | j :: p, u, h => by
    obtain ⟨e, he, hu, hlt, ht⟩ := h
    obtain ⟨⟨h1, h2⟩, h3⟩ := ht.sm
    refine ⟨⟨⟨e, he, hu, h1⟩, ?_⟩, ?_⟩
    · simp only [Vs, he, List.nodup_cons]
      exact ⟨fun h => by have := h3 _ h; omega, h2⟩
    · intro x hx
      simp only [Vs, he, List.mem_cons] at hx
      rcases hx with rfl | hx
      · exact Nat.le_refl _
      · have := h3 x hx; omega
theorem Dn.len {l : List PE} {d : Int → Nat} {v : Int} : ∀ {p : List Nat} {u : Int}, Dn l d u p v → d v + p.length ≤ d u
  | [], u, h => by simp [Dn] at h; subst h; simp
  | j :: p, u, h => by
    obtain ⟨e, he, hu, hlt, ht⟩ := h
    have := ht.len
    simp; omega
/-- The edges at places. -/
def edsAt {α : Type} (l : List α) (p : List Nat) : List α := p.filterMap fun i => l[i]?
theorem edsAt_snoc {α : Type} (l : List α) (p : List Nat) {i : Nat} {e : α} (h : l[i]? = some e) : edsAt l (p ++ [i]) = edsAt l p ++ [e] := by simp [edsAt, h]
end Pt
