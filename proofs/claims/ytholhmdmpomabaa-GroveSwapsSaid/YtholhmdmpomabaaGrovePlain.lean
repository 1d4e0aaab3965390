/- Forests: edges of which each makes two classes one. Plain mathematics, no program in sight. -/
import Derived.Test.YtholhmdmpomabaaPartPlain
namespace Pt
set_option linter.unusedVariables false

abbrev PE := Int × Int

/-- x and y are connected. -/
def Cn (n : Nat) (l : List PE) (x y : Int) : Prop := g (partOf n l) x = g (partOf n l) y

/-- What holds the ends of each edge together holds the connected together. -/
theorem Cn.univ {α : Type} (q : Int → α) {n : Nat} {l : List PE} (hl : MayL n l) (hq : ∀ e ∈ l, q e.1 = q e.2) {x y : Int} (hx : InR n x) (hy : InR n y) (h : Cn n l x y) : q x = q y := by
  rw [univ_partOf q hl hq x hx, univ_partOf q hl hq y hy]
  unfold Cn at h; rw [h]
theorem Cn.edge {n : Nat} {l : List PE} (hl : MayL n l) {e : PE} (he : e ∈ l) : Cn n l e.1 e.2 := made_partOf hl e he

/-- Edges that hold each other's ends together make the same partition. -/
theorem partOf_ext {n : Nat} {l m : List PE} (hl : MayL n l) (hm : MayL n m) (h1 : ∀ e ∈ l, Cn n m e.1 e.2) (h2 : ∀ e ∈ m, Cn n l e.1 e.2) : partOf n m = partOf n l := by
  have hR := Rt_partOf hm
  refine partOf_unique hl (len_partOf n m) (fun x hx => ?_) h1 (fun x hx => ?_)
  · have hx' : InR (partOf n m).length x := by rw [len_partOf]; exact hx
    have := hR x hx'
    have h3 := hR.inr hx'
    rw [len_partOf] at h3
    exact ⟨h3, this.2.1⟩
  · exact (univ_partOf (g (partOf n l)) hm h2 x hx).symm

theorem MayL.sub {n : Nat} {l m : List PE} (h : MayL n l) (hs : ∀ e ∈ m, e ∈ l) : MayL n m := fun e he => h e (hs e he)
theorem cnt_idl (n : Nat) : cnt (idl n) = n := by
  unfold cnt
  rw [len_idl, countP_same (h := fun _ => true)]
  · simp
  · intro i hi
    simp [g_idl (n := n) (v := (i : Int)) ⟨by omega, by omega⟩]

theorem snoc_ind {α : Type} {P : List α → Prop} (h0 : P []) (h1 : ∀ l a, P l → P (l ++ [a])) : ∀ l, P l := by
  intro l
  have : ∀ m : List α, P m.reverse := by
    intro m
    induction m with
    | nil => exact h0
    | cons a m ih => rw [List.reverse_cons]; exact h1 _ _ ih
  have := this l.reverse
  rwa [List.reverse_reverse] at this

theorem MayL.init {n : Nat} {l : List PE} {e : PE} (h : MayL n (l ++ [e])) : MayL n l ∧ InR n e.1 ∧ InR n e.2 :=
  ⟨fun x hx => h x (by simp [hx]), h e (by simp)⟩

/-- Each edge makes at most two classes one. -/
theorem cnt_ge {n : Nat} : ∀ l : List PE, MayL n l → n ≤ cnt (partOf n l) + l.length := by
  refine snoc_ind ?_ ?_
  · intro _; show n ≤ cnt (idl n) + 0; rw [cnt_idl]; exact Nat.le_refl _
  · intro l e ih h
    obtain ⟨hl, h1, h2⟩ := h.init
    have := ih hl
    rw [partOf_snoc]
    by_cases hc : g (partOf n l) e.1 = g (partOf n l) e.2
    · rw [join_id hc]; simp; omega
    · have := cnt_join (Rt_partOf hl) (u := e.1) (v := e.2) (by rw [len_partOf]; exact h1) (by rw [len_partOf]; exact h2) hc
      simp; omega

/-- A forest: it has as many classes fewer than vertices as it has edges. -/
def Fst (n : Nat) (l : List PE) : Prop := MayL n l ∧ cnt (partOf n l) + l.length = n

theorem Fst.init {n : Nat} {l : List PE} {e : PE} (h : Fst n (l ++ [e])) : Fst n l ∧ ¬ Cn n l e.1 e.2 := by
  obtain ⟨hm, hc⟩ := h
  obtain ⟨hl, h1, h2⟩ := hm.init
  have hge := cnt_ge l hl
  rw [partOf_snoc] at hc
  by_cases he : g (partOf n l) e.1 = g (partOf n l) e.2
  · rw [join_id he] at hc; simp at hc; omega
  · have := cnt_join (Rt_partOf hl) (u := e.1) (v := e.2) (by rw [len_partOf]; exact h1) (by rw [len_partOf]; exact h2) he
    simp at hc
    exact ⟨⟨hl, by omega⟩, he⟩
theorem Fst.snoc {n : Nat} {l : List PE} {e : PE} (h : Fst n l) (h1 : InR n e.1) (h2 : InR n e.2) (he : ¬ Cn n l e.1 e.2) : Fst n (l ++ [e]) := by
  have := cnt_join (Rt_partOf h.1) (u := e.1) (v := e.2) (by rw [len_partOf]; exact h1) (by rw [len_partOf]; exact h2) he
  refine ⟨fun x hx => ?_, ?_⟩
  · rcases List.mem_append.1 hx with hx | hx
    · exact h.1 x hx
    · simp at hx; subst hx; exact ⟨h1, h2⟩
  · rw [partOf_snoc]; have := h.2; simp; omega
theorem Fst.snoc_not {n : Nat} {l : List PE} {e : PE} (he : Cn n l e.1 e.2) : ¬ Fst n (l ++ [e]) := fun h => h.init.2 he

/-- The same edges in another order. -/
theorem partOf_same {n : Nat} {l m : List PE} (hl : MayL n l) (h : ∀ e, e ∈ l ↔ e ∈ m) : partOf n m = partOf n l := by
  have hm : MayL n m := hl.sub fun e he => (h e).2 he
  exact partOf_ext hl hm (fun e he => Cn.edge hm ((h e).1 he)) (fun e he => Cn.edge hl ((h e).2 he))

theorem mem_erase {α : Type} {l : List α} {i : Nat} {a : α} (h : a ∈ l.eraseIdx i) : a ∈ l := List.mem_of_mem_eraseIdx h
theorem erase_mem {α : Type} {l : List α} {i j : Nat} {a : α} (h : l[j]? = some a) (hne : j ≠ i) : a ∈ l.eraseIdx i :=
  List.mem_eraseIdx_iff_getElem?.2 ⟨j, hne, h⟩
theorem mem_erase_iff {α : Type} {l : List α} {i : Nat} {a : α} (h : l[i]? = some a) (b : α) : b ∈ l ↔ b ∈ l.eraseIdx i ++ [a] := by
  constructor
  · intro hb
    obtain ⟨j, hj⟩ := List.mem_iff_getElem?.1 hb
    by_cases e : j = i
    · subst e; rw [h] at hj; injection hj with hj; simp [hj]
    · exact List.mem_append_left _ (erase_mem hj e)
  · intro hb
    rcases List.mem_append.1 hb with hb | hb
    · exact mem_erase hb
    · simp at hb; subst hb; exact List.mem_of_getElem? h

theorem len_erase {α : Type} {l : List α} {i : Nat} {a : α} (h : l[i]? = some a) : (l.eraseIdx i).length + 1 = l.length := by
  obtain ⟨hi, _⟩ := List.getElem?_eq_some_iff.1 h
  rw [List.length_eraseIdx_of_lt hi]; omega

/-- Each edge of a forest: without it its ends are apart, and what is left is a forest. -/
theorem Fst.bridge {n : Nat} {l : List PE} (h : Fst n l) {i : Nat} {e : PE} (hi : l[i]? = some e) : Fst n (l.eraseIdx i) ∧ ¬ Cn n (l.eraseIdx i) e.1 e.2 := by
  have hp := partOf_same h.1 (mem_erase_iff hi)
  refine Fst.init ⟨h.1.sub fun x hx => (mem_erase_iff hi x).2 hx, ?_⟩
  rw [hp]
  have := h.2
  have := len_erase hi
  simp; omega
theorem Fst.inj {n : Nat} {l : List PE} (h : Fst n l) {i j : Nat} {e : PE} (hi : l[i]? = some e) (hj : l[j]? = some e) : i = j := by
  by_cases hne : j = i
  · exact hne.symm
  · exact absurd (Cn.edge (h.bridge hi).1.1 (erase_mem hj hne)) (h.bridge hi).2
theorem Fst.noloop {n : Nat} {l : List PE} (h : Fst n l) {i : Nat} {e : PE} (hi : l[i]? = some e) : e.1 ≠ e.2 := fun he => (h.bridge hi).2 (by unfold Cn; rw [he])

/-! ## Ways -/
def oth (e : PE) (u : Int) : Int := if e.1 = u then e.2 else e.1
theorem oth_in {n : Nat} {e : PE} (h : InR n e.1 ∧ InR n e.2) (u : Int) : InR n (oth e u) := by
  unfold oth; split
  · exact h.2
  · exact h.1
theorem oth_cases {e : PE} {u : Int} (h : e.1 = u ∨ e.2 = u) : (e.1 = u ∧ e.2 = oth e u) ∨ (e.2 = u ∧ e.1 = oth e u) := by
  unfold oth
  by_cases h1 : e.1 = u
  · exact .inl ⟨h1, by rw [if_pos h1]⟩
  · rw [if_neg h1]; exact .inr ⟨h.resolve_left h1, rfl⟩
theorem oth_end {e : PE} {u : Int} (h : e.1 = u ∨ e.2 = u) : e.1 = oth e u ∨ e.2 = oth e u := by
  rcases oth_cases h with ⟨_, h⟩ | ⟨_, h⟩ <;> simp [h]
theorem oth_oth {e : PE} {u : Int} (h : e.1 = u ∨ e.2 = u) : oth e (oth e u) = u := by
  unfold oth
  by_cases h1 : e.1 = u
  · rw [if_pos h1]; split
    · omega
    · exact h1
  · rw [if_neg h1, if_pos rfl]; exact h.resolve_left h1
theorem oth_sum {e : PE} {u : Int} (h : e.1 = u ∨ e.2 = u) : e.1 + e.2 - u = oth e u := by
  rcases oth_cases h with ⟨h1, h2⟩ | ⟨h1, h2⟩ <;> omega
/-- Whatever a function says of both ends of an edge it says of u and the other end. -/
theorem oth_eq {α : Type} (q : Int → α) {e : PE} {u : Int} (h : e.1 = u ∨ e.2 = u) : q e.1 = q e.2 ↔ q u = q (oth e u) := by
  rcases oth_cases h with ⟨h1, h2⟩ | ⟨h1, h2⟩
  · rw [h1, h2]
  · rw [h1, h2]; exact eq_comm

/-- A way from u to v by the edges at these places. -/
def Tr (l : List PE) : Int → List Nat → Int → Prop
  | u, [], v => u = v
  | u, i :: is, v => ∃ e, l[i]? = some e ∧ (e.1 = u ∨ e.2 = u) ∧ Tr l (oth e u) is v
/-- The vertices of a way. -/
def Vs (l : List PE) : Int → List Nat → List Int
  | u, [] => [u]
  | u, i :: is => u :: match l[i]? with | some e => Vs l (oth e u) is | none => []
/-- A way that comes to no vertex twice. -/
def Sm (l : List PE) (u : Int) (p : List Nat) (v : Int) : Prop := Tr l u p v ∧ (Vs l u p).Nodup

theorem Vs_head (l : List PE) (u : Int) (p : List Nat) : ∃ t, Vs l u p = u :: t := by
  cases p with
  | nil => exact ⟨_, rfl⟩
  | cons i p => exact ⟨_, rfl⟩
theorem Vs_mem (l : List PE) (u : Int) (p : List Nat) : u ∈ Vs l u p := by obtain ⟨t, h⟩ := Vs_head l u p; rw [h]; simp
theorem Tr.last {l : List PE} {v : Int} : ∀ {p : List Nat} {u : Int}, Tr l u p v → v ∈ Vs l u p
  | [], u, h => by simp [Tr] at h; simp [Vs, h]
  | i :: is, u, h => by
    obtain ⟨e, he, _, ht⟩ := h
    simp only [Vs, he]
    exact List.mem_cons_of_mem _ ht.last
theorem Tr.len {l : List PE} {v : Int} : ∀ {p : List Nat} {u : Int}, Tr l u p v → (Vs l u p).length = p.length + 1
  | [], u, h => rfl
  | i :: is, u, h => by
    obtain ⟨e, he, _, ht⟩ := h
    simp only [Vs, he, List.length_cons, ht.len]
theorem Tr.ends {l : List PE} {v : Int} : ∀ {p : List Nat} {u : Int}, Tr l u p v → ∀ (i : Nat) (e : PE), i ∈ p → l[i]? = some e → e.1 ∈ Vs l u p ∧ e.2 ∈ Vs l u p
  | [], u, h => fun i e hi => by simp at hi
  | j :: is, u, h => by
    intro i e hi he
    obtain ⟨d, hd, hu, ht⟩ := h
    simp only [Vs, hd]
    rcases List.mem_cons.1 hi with rfl | hi
    · rw [he] at hd; injection hd with hd; subst hd
      have hm := Vs_mem l (oth e u) is
      rcases oth_cases hu with ⟨h1, h2⟩ | ⟨h1, h2⟩
      · exact ⟨by rw [h1]; simp, by rw [h2]; exact List.mem_cons_of_mem _ hm⟩
      · exact ⟨by rw [h2]; exact List.mem_cons_of_mem _ hm, by rw [h1]; simp⟩
    · have := ht.ends _ _ hi he
      exact ⟨List.mem_cons_of_mem _ this.1, List.mem_cons_of_mem _ this.2⟩
theorem Tr.inr {n : Nat} {l : List PE} (hl : MayL n l) {v : Int} : ∀ {p : List Nat} {u : Int}, InR n u → Tr l u p v → ∀ x ∈ Vs l u p, InR n x
  | [], u, hu, h => fun x hx => by simp [Vs] at hx; subst hx; exact hu
  | j :: is, u, hu, h => by
    obtain ⟨d, hd, _, ht⟩ := h
    intro x hx
    simp only [Vs, hd, List.mem_cons] at hx
    rcases hx with rfl | hx
    · exact hu
    · exact Tr.inr hl (oth_in (hl d (List.mem_of_getElem? hd)) u) ht x hx
/-- What holds the ends of a way's edges together holds its ends together. -/
theorem Tr.univ {α : Type} (q : Int → α) {l : List PE} {v : Int} : ∀ {p : List Nat} {u : Int}, Tr l u p v → (∀ i ∈ p, ∀ e, l[i]? = some e → q e.1 = q e.2) → q u = q v
  | [], u, h, _ => by simp [Tr] at h; rw [h]
  | j :: is, u, h, hq => by
    obtain ⟨d, hd, hu, ht⟩ := h
    rw [(oth_eq q hu).1 (hq j (by simp) d hd)]
    exact ht.univ q fun i hi e he => hq i (by simp [hi]) e he
theorem Tr.cn {n : Nat} {l : List PE} (hl : MayL n l) {v : Int} {p : List Nat} {u : Int} (h : Tr l u p v) : Cn n l u v :=
  h.univ (g (partOf n l)) fun i _ e he => Cn.edge hl (List.mem_of_getElem? he)
/-- A way that does not take the edge i. -/
theorem Tr.cn_but {n : Nat} {l : List PE} (hl : MayL n l) {v : Int} {p : List Nat} {u : Int} (h : Tr l u p v) {i : Nat} (hi : i ∉ p) : Cn n (l.eraseIdx i) u v :=
  h.univ (g (partOf n (l.eraseIdx i))) fun j hj e he => Cn.edge (hl.sub fun _ h => mem_erase h) (erase_mem he fun e => hi (e ▸ hj))

theorem Sm.tail {l : List PE} {u v : Int} {i : Nat} {p : List Nat} (h : Sm l u (i :: p) v) : ∃ e, l[i]? = some e ∧ (e.1 = u ∨ e.2 = u) ∧ Sm l (oth e u) p v ∧ u ∉ Vs l (oth e u) p ∧ i ∉ p := by
  obtain ⟨⟨e, he, hu, ht⟩, hn⟩ := h
  simp only [Vs, he, List.nodup_cons] at hn
  refine ⟨e, he, hu, ⟨ht, hn.2⟩, hn.1, fun hi => hn.1 ?_⟩
  have := ht.ends _ _ hi he
  generalize Vs l (oth e u) p = L at this ⊢
  rcases hu with h | h
  · rw [← h]; exact this.1
  · rw [← h]; exact this.2

/-- In a forest there is one way. -/
theorem Fst.unique {n : Nat} {l : List PE} (hf : Fst n l) {v : Int} : ∀ {p q : List Nat} {u : Int}, Sm l u p v → Sm l u q v → p = q
  | [], [], u, _, _ => rfl
  | [], j :: q, u, h1, h2 => by
    have : u = v := h1.1
    subst this
    obtain ⟨e, he, hu, ht, hn, _⟩ := h2.tail
    exact absurd ht.1.last hn
  | i :: p, [], u, h1, h2 => by
    have : u = v := h2.1
    subst this
    obtain ⟨e, he, hu, ht, hn, _⟩ := h1.tail
    exact absurd ht.1.last hn
  | i :: p, j :: q, u, h1, h2 => by
    obtain ⟨e, he, hu, ht, hn, hip⟩ := h1.tail
    obtain ⟨d, hd, hu', ht', hn', hjq⟩ := h2.tail
    by_cases hij : i = j
    · subst hij
      rw [he] at hd; injection hd with hd; subst hd
      rw [Fst.unique hf ht ht']
    · exfalso
      have hiq : i ∉ q := fun hi => hn' (by
        have := ht'.1.ends _ _ hi he
        generalize Vs l (oth d u) q = L at this ⊢
        rcases hu with h | h
        · rw [← h]; exact this.1
        · rw [← h]; exact this.2)
      have hb := hf.bridge he
      have c1 := ht.1.cn_but hf.1 hip
      have c2 := ht'.1.cn_but hf.1 hiq
      have c3 : Cn n (l.eraseIdx i) u (oth d u) := (oth_eq (g (partOf n (l.eraseIdx i))) hu').1 (Cn.edge hb.1.1 (erase_mem hd (Ne.symm hij)))
      refine hb.2 ((oth_eq (g (partOf n (l.eraseIdx i))) hu).2 ?_)
      unfold Cn at c1 c2 c3
      rw [c3, c2, c1]

/-! ## The way back -/
theorem Tr.snoc {l : List PE} {i : Nat} {e : PE} (he : l[i]? = some e) {x : Int} (hx : e.1 = x ∨ e.2 = x) : ∀ {p : List Nat} {u : Int}, Tr l u p x → Tr l u (p ++ [i]) (oth e x)
  | [], u, h => by simp [Tr] at h; subst h; exact ⟨e, he, hx, rfl⟩
  | j :: p, u, h => by
    obtain ⟨d, hd, hu, ht⟩ := h
    exact ⟨d, hd, hu, ht.snoc he hx⟩
theorem Vs_snoc {l : List PE} {i : Nat} {e : PE} (he : l[i]? = some e) {x : Int} (hx : e.1 = x ∨ e.2 = x) : ∀ {p : List Nat} {u : Int}, Tr l u p x → Vs l u (p ++ [i]) = Vs l u p ++ [oth e x]
  | [], u, h => by simp [Tr] at h; subst h; simp [Vs, he]
  | j :: p, u, h => by
    obtain ⟨d, hd, hu, ht⟩ := h
    simp only [List.cons_append, Vs, hd, Vs_snoc he hx ht]
theorem Sm.back {l : List PE} {v : Int} : ∀ {p : List Nat} {u : Int}, Tr l u p v → Tr l v p.reverse u ∧ Vs l v p.reverse = (Vs l u p).reverse
  | [], u, h => by simp [Tr] at h; subst h; exact ⟨rfl, rfl⟩
  | i :: p, u, h => by
    obtain ⟨e, he, hu, ht⟩ := h
    obtain ⟨h1, h2⟩ := Sm.back ht
    have he2 := oth_end hu
    have h3 := Tr.snoc he he2 h1
    have h4 := Vs_snoc he he2 h1
    rw [oth_oth hu] at h3 h4
    rw [List.reverse_cons]
    refine ⟨h3, ?_⟩
    rw [h4, h2]
    simp [Vs, he]
theorem Sm.rev {l : List PE} {u v : Int} {p : List Nat} (h : Sm l u p v) : Sm l v p.reverse u := by
  obtain ⟨h1, h2⟩ := Sm.back h.1
  exact ⟨h1, by rw [h2]; unfold List.Nodup; rw [List.pairwise_reverse]; exact h.2.imp fun h => Ne.symm h⟩

theorem nodup_lt : ∀ (n : Nat) (vs : List Nat), vs.Nodup → (∀ x ∈ vs, x < n) → vs.length ≤ n
  | 0, vs, _, h => by
    cases vs with
    | nil => simp
    | cons a l => exact absurd (h a (by simp)) (by omega)
  | n + 1, vs, hn, h => by
    by_cases hm : n ∈ vs
    · have h1 := nodup_lt n (vs.erase n) (hn.erase n) (fun x hx => by
        have h2 := h x (List.mem_of_mem_erase hx)
        have h3 : x ≠ n := fun e => by subst e; exact absurd hx (hn.not_mem_erase)
        omega)
      rw [List.length_erase_of_mem hm] at h1
      omega
    · have h1 := nodup_lt n vs hn (fun x hx => by
        have h2 := h x hx
        have h3 : x ≠ n := fun e => hm (e ▸ hx)
        omega)
      omega
theorem Nodup_inR {n : Nat} {vs : List Int} (hn : vs.Nodup) (hr : ∀ x ∈ vs, InR n x) : vs.length ≤ n := by
  have h1 : (vs.map Int.toNat).Nodup := by
    rw [List.Nodup, List.pairwise_map]
    refine (List.Pairwise.imp_of_mem ?_ hn)
    intro a b ha hb hab he
    have := hr a ha; have := hr b hb
    unfold InR at *
    exact hab (by omega)
  have h2 : (vs.map Int.toNat) ⊆ List.range n := by
    intro y hy
    obtain ⟨x, hx, rfl⟩ := List.mem_map.1 hy
    have := hr x hx
    unfold InR at this
    simp; omega
  have := nodup_lt n _ h1 (fun x hx => by simpa using h2 hx)
  simpa using this
theorem Sm.short {n : Nat} {l : List PE} (hl : MayL n l) {u v : Int} {p : List Nat} (hu : InR n u) (h : Sm l u p v) : p.length < n := by
  have h1 := h.1.len
  have h2 := Nodup_inR h.2 (h.1.inr hl hu)
  omega

/-! ## Swaps -/
theorem Tr.split_ {l : List PE} {v : Int} : ∀ (p : List Nat) (u : Int) (k : Nat), Tr l u p v → ∀ hk : k < p.length, ∃ e x, l[p[k]]? = some e ∧ (e.1 = x ∨ e.2 = x) ∧ Tr l u (p.take k) x ∧ Tr l (oth e x) (p.drop (k + 1)) v ∧ Vs l u p = Vs l u (p.take k) ++ Vs l (oth e x) (p.drop (k + 1))
  | [], u, k, h => fun hk => absurd hk (by simp)
  | j :: p, u, 0, h => fun hk => by
    obtain ⟨d, hd, hu, ht⟩ := h
    exact ⟨d, u, hd, hu, rfl, ht, by simp [Vs, hd]⟩
  | j :: p, u, k + 1, h => fun hk => by
    obtain ⟨d, hd, hu, ht⟩ := h
    obtain ⟨e, x, h1, h2, h3, h4, h5⟩ := Tr.split_ p _ k ht (by simpa using hk)
    refine ⟨e, x, by simpa using h1, h2, ⟨d, hd, hu, h3⟩, by simpa using h4, ?_⟩
    simp only [Vs, hd, List.take_succ_cons, List.drop_succ_cons, h5, List.cons_append]

/-- Without an edge of the way its ends are apart. -/
theorem Fst.cut {n : Nat} {l : List PE} (hf : Fst n l) {u v : Int} {p : List Nat} (h : Sm l u p v) {k : Nat} (hk : k < p.length) :
    ∃ e x, l[p[k]]? = some e ∧ (e.1 = x ∨ e.2 = x) ∧ Cn n (l.eraseIdx p[k]) u x ∧ Cn n (l.eraseIdx p[k]) (oth e x) v ∧ ¬ Cn n (l.eraseIdx p[k]) u v := by
  obtain ⟨e, x, he, hx, h1, h2, h3⟩ := Tr.split_ _ _ _ h.1 hk
  have hn := h.2
  rw [h3, List.nodup_append] at hn
  obtain ⟨_, _, hd⟩ := hn
  have hb := hf.bridge he
  have hm1 := h1.last
  have hm2 := Vs_mem l (oth e x) (p.drop (k + 1))
  have n1 : p[k] ∉ p.take k := fun hi => by
    have := h1.ends _ _ hi he
    rcases oth_cases hx with ⟨a, b⟩ | ⟨a, b⟩
    · exact hd _ this.2 _ hm2 (by rw [b])
    · exact hd _ this.1 _ hm2 (by rw [b])
  have n2 : p[k] ∉ p.drop (k + 1) := fun hi => by
    have := h2.ends _ _ hi he
    rcases oth_cases hx with ⟨a, b⟩ | ⟨a, b⟩
    · exact hd _ hm1 _ this.1 (by rw [a])
    · exact hd _ hm1 _ this.2 (by rw [a])
  have c1 := h1.cn_but hf.1 n1
  have c2 := h2.cn_but hf.1 n2
  refine ⟨e, x, he, hx, c1, c2, fun hc => hb.2 ((oth_eq (g (partOf n (l.eraseIdx p[k]))) hx).2 ?_)⟩
  unfold Cn at c1 c2 hc
  rw [c2, ← c1, hc]

theorem Fst.swap {n : Nat} {l : List PE} (hf : Fst n l) {u v : Int} (hu : InR n u) (hv : InR n v) {p : List Nat} (h : Sm l u p v) {k : Nat} (hk : k < p.length) :
    Fst n (l.eraseIdx p[k]) ∧ ¬ Cn n (l.eraseIdx p[k]) u v ∧ Fst n (l.eraseIdx p[k] ++ [(u, v)]) ∧ partOf n (l.eraseIdx p[k] ++ [(u, v)]) = partOf n l ∧ ¬ Fst n (l ++ [(u, v)]) := by
  obtain ⟨e, x, he, hx, c1, c2, c3⟩ := hf.cut h hk
  have hb := hf.bridge he
  have hs : Fst n (l.eraseIdx p[k] ++ [(u, v)]) := hb.1.snoc hu hv c3
  refine ⟨hb.1, c3, hs, ?_, Fst.snoc_not (e := (u, v)) (h.1.cn hf.1)⟩
  have up : ∀ {a b : Int}, InR n a → InR n b → Cn n (l.eraseIdx p[k]) a b → Cn n (l.eraseIdx p[k] ++ [(u, v)]) a b := fun ha hb' hc =>
    Cn.univ (g (partOf n (l.eraseIdx p[k] ++ [(u, v)]))) hb.1.1 (fun d hd => Cn.edge hs.1 (by simp [hd])) ha hb' hc
  have hxe := hf.1 e (List.mem_of_getElem? he)
  have hxr : InR n x := by
    rcases hx with h | h
    · rw [← h]; exact hxe.1
    · rw [← h]; exact hxe.2
  refine partOf_ext hf.1 hs.1 (fun d hd => ?_) (fun d hd => ?_)
  · rcases List.mem_append.1 ((mem_erase_iff he d).1 hd) with h' | h'
    · exact Cn.edge hs.1 (by simp [h'])
    · simp at h'; subst h'
      refine (oth_eq (g (partOf n (l.eraseIdx p[k] ++ [(u, v)]))) hx).2 ?_
      have d1 := up hu hxr c1
      have d2 := up (oth_in hxe x) hv c2
      have d3 : Cn n (l.eraseIdx p[k] ++ [(u, v)]) u v := Cn.edge hs.1 (e := (u, v)) (by simp)
      unfold Cn at d1 d2 d3
      rw [← d1, d3, ← d2]
  · rcases List.mem_append.1 hd with h' | h'
    · exact Cn.edge hf.1 (mem_erase h')
    · simp at h'; subst h'; exact h.1.cn hf.1

/-! ## A forest's trees -/
def inC (P : List Int) (r : Int) (n : Nat) : Nat := (List.range n).countP fun x : Nat => decide (g P (x : Int) = r)
def inE (P : List Int) (r : Int) (l : List PE) : Nat := l.countP fun e => decide (g P e.1 = r)

theorem countP_or {α : Type} {f a b : α → Bool} (l : List α) (h : ∀ x ∈ l, f x = (a x || b x)) (hd : ∀ x ∈ l, ¬ (a x = true ∧ b x = true)) : l.countP f = l.countP a + l.countP b := by
  induction l with
  | nil => rfl
  | cons x l ih =>
    have := ih (fun y hy => h y (by simp [hy])) (fun y hy => hd y (by simp [hy]))
    have h1 := h x (by simp)
    have h2 := hd x (by simp)
    simp only [List.countP_cons, this, h1]
    cases ha : a x <;> cases hb : b x <;> simp [ha, hb] at h2 ⊢ <;> omega
theorem countP_ext {α : Type} {f a : α → Bool} (l : List α) (h : ∀ x ∈ l, f x = a x) : l.countP f = l.countP a := List.countP_congr fun x hx => by rw [h x hx]

theorem Fst.trees {n : Nat} : ∀ l : List PE, Fst n l → ∀ r, InR n r → g (partOf n l) r = r → inC (partOf n l) r n = inE (partOf n l) r l + 1 := by
  refine snoc_ind ?_ ?_
  · intro _ r hr _
    show inC (idl n) r n = 0 + 1
    unfold inC
    have : ∀ x, x < n → decide (g (idl n) (x : Int) = r) = decide (x = r.toNat) := by
      intro x hx
      rw [g_idl ⟨by omega, by omega⟩]
      unfold InR at hr
      by_cases h : x = r.toNat
      · have : (x : Int) = r := by omega
        simp [h]; omega
      · have : ¬ (x : Int) = r := by omega
        simp [h, this]
    rw [countP_same this]
    rw [countP_but (m := r.toNat) (f := fun x => decide (x = r.toNat)) (h := fun _ => false)]
    · simp
    · unfold InR at hr; omega
    · intro i hi hne; simp [hne]
    · simp
    · rfl
  · intro l e ih h r hr hroot
    obtain ⟨hf, hc⟩ := h.init
    obtain ⟨_, h1, h2⟩ := h.1.init
    have hR := Rt_partOf hf.1
    have hlen := len_partOf n l
    have ih := ih hf
    rw [partOf_snoc] at hroot ⊢
    unfold Cn at hc
    generalize hP : partOf n l = P at *
    have e1 : InR P.length e.1 := by rw [hlen]; exact h1
    have e2 : InR P.length e.2 := by rw [hlen]; exact h2
    have ha := hR.inr e1
    have hb := hR.inr e2
    have ha2 := (hR _ e1).2.2
    have hb2 := (hR _ e2).2.2
    rw [hlen] at ha hb
    obtain ⟨lo, hlo⟩ : ∃ lo, lo = min (g P e.1) (g P e.2) := ⟨_, rfl⟩
    obtain ⟨hi, hhi⟩ : ∃ hi, hi = max (g P e.1) (g P e.2) := ⟨_, rfl⟩
    have hg : ∀ x, InR n x → g (joinL P e.1 e.2) x = if g P x = hi then lo else g P x := fun x hx => by rw [g_join _ _ _ _ (by rw [hlen]; exact hx), ← hlo, ← hhi]
    have hne : lo ≠ hi := by omega
    have hlor : InR n lo ∧ g P lo = lo := by
      rcases Int.le_total (g P e.1) (g P e.2) with h | h
      · rw [Int.min_eq_left h] at hlo; rw [hlo]; exact ⟨ha, ha2⟩
      · rw [Int.min_eq_right h] at hlo; rw [hlo]; exact ⟨hb, hb2⟩
    have hhir : InR n hi ∧ g P hi = hi := by
      rcases Int.le_total (g P e.1) (g P e.2) with h | h
      · rw [Int.max_eq_right h] at hhi; rw [hhi]; exact ⟨hb, hb2⟩
      · rw [Int.max_eq_left h] at hhi; rw [hhi]; exact ⟨ha, ha2⟩
    rw [hg r hr] at hroot
    have hrh : g P r ≠ hi := by
      intro h; rw [if_pos h] at hroot
      rw [← hroot] at h
      rw [hlor.2] at h
      exact hne h
    rw [if_neg hrh] at hroot
    have he1 : g (joinL P e.1 e.2) e.1 = lo := by
      rw [hg _ h1]
      split
      · rfl
      · omega
    have hin : ∀ d ∈ l, InR n d.1 := fun d hd => (hf.1 d hd).1
    by_cases hrl : r = lo
    · subst hrl
      have hC : inC (joinL P e.1 e.2) r n = inC P r n + inC P hi n := by
        unfold inC
        refine countP_or _ (fun x hx => ?_) (fun x hx => ?_)
        · have hx' : InR n (x : Int) := by simp at hx; exact ⟨by omega, by omega⟩
          rw [hg _ hx']
          by_cases hxh : g P (x : Int) = hi
          · simp [hxh]
          · simp [hxh]
        · simp; omega
      have hE : inE (joinL P e.1 e.2) r l = inE P r l + inE P hi l := by
        unfold inE
        refine countP_or _ (fun x hx => ?_) (fun x hx => ?_)
        · rw [hg _ (hin x hx)]
          by_cases hxh : g P x.1 = hi
          · simp [hxh]
          · simp [hxh]
        · simp; omega
      have hE2 : inE (joinL P e.1 e.2) r (l ++ [e]) = inE (joinL P e.1 e.2) r l + 1 := by
        unfold inE; simp [List.countP_append, he1]
      rw [hC, hE2, hE, ih r hr hroot, ih hi hhir.1 hhir.2]
      omega
    · have hC : inC (joinL P e.1 e.2) r n = inC P r n := by
        unfold inC
        refine countP_ext _ (fun x hx => ?_)
        have hx' : InR n (x : Int) := by simp at hx; exact ⟨by omega, by omega⟩
        rw [hg _ hx']
        by_cases hxh : g P (x : Int) = hi
        · rw [if_pos hxh]
          have : ¬ hi = r := by rw [← hroot]; omega
          have h2 : ¬ lo = r := fun h => hrl h.symm
          simp [hxh, this, h2]
        · simp [hxh]
      have hE : inE (joinL P e.1 e.2) r (l ++ [e]) = inE P r l := by
        unfold inE
        rw [List.countP_append, countP_ext l (a := fun e => decide (g P e.1 = r))]
        · have h2 : ¬ lo = r := fun h => hrl h.symm
          simp [he1, h2]
        · intro x hx
          rw [hg _ (hin x hx)]
          by_cases hxh : g P x.1 = hi
          · rw [if_pos hxh]
            have : ¬ hi = r := by rw [← hroot]; omega
            have h2 : ¬ lo = r := fun h => hrl h.symm
            simp [hxh, this, h2]
          · simp [hxh]
      rw [hC, hE, ih r hr hroot]
end Pt
