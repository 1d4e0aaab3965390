import Derived.Test.YtkhgjffhelofdaaPartPlain
namespace Pt

theorem joinL_comm (p : List Int) (u v : Int) : joinL p u v = joinL p v u := by
  unfold joinL; rw [Int.max_comm, Int.min_comm]
theorem joinF_comm (p : List Int) (u v : Int) : joinF p u v = joinF p v u := by
  unfold joinF
  rw [joinL_comm]
  by_cases h1 : placeB p.length u = true <;> by_cases h2 : placeB p.length v = true <;> simp [h1, h2]
theorem len_joinF (p : List Int) (u v : Int) : (joinF p u v).length = p.length := by
  unfold joinF; split
  · exact len_join p u v
  · rfl
theorem rightB_joinF {p : List Int} (h : rightB p = true) (u v : Int) : rightB (joinF p u v) = true := by
  unfold joinF
  split
  · rename_i h'
    simp only [Bool.and_eq_true, placeB_iff] at h'
    exact (rightB_iff _).2 (((rightB_iff _).1 h).join h'.1.2 h'.2)
  · exact h
theorem refines_refl {p : List Int} (h : Rt p) : refinesB p p = true :=
  (refinesB_iff p p).2 ⟨h, h, rfl, fun v hv => (h v hv).2.2.symm⟩
theorem refines_join {p : List Int} (h : Rt p) {u v : Int} (hu : InR p.length u) (hv : InR p.length v) : refinesB p (joinL p u v) = true :=
  (refinesB_iff _ _).2 ⟨h, h.join hu hv, (len_join p u v).symm, fun x hx => join_same hx (h.inr hx) ((h x hx).2.2.symm)⟩
theorem refines_joinF {p : List Int} (h : rightB p = true) (u v : Int) : refinesB p (joinF p u v) = true := by
  have hR := (rightB_iff p).1 h
  unfold joinF
  split
  · rename_i h'
    simp only [Bool.and_eq_true, placeB_iff] at h'
    exact refines_join hR h'.1.2 h'.2
  · exact refines_refl hR
theorem joinF_in {p : List Int} (h : rightB p = true) {u v : Int} (hu : InR p.length u) (hv : InR p.length v) : joinF p u v = joinL p u v := by
  unfold joinF; rw [h, (placeB_iff _ _).2 hu, (placeB_iff _ _).2 hv]; rfl
theorem joinF_idem {p : List Int} (h : rightB p = true) (u v : Int) : joinF (joinF p u v) u v = joinF p u v := by
  by_cases h' : InR p.length u ∧ InR p.length v
  · rw [joinF_in (rightB_joinF h u v) (by rw [len_joinF]; exact h'.1) (by rw [len_joinF]; exact h'.2), joinF_in h h'.1 h'.2]
    exact join_id (join_made h'.1 h'.2)
  · have e : joinF p u v = p := by
      unfold joinF; rw [if_neg]
      simp only [Bool.and_eq_true, placeB_iff]
      exact fun hh => h' ⟨hh.1.2, hh.2⟩
    rw [e, e]
/-- Two partitions each of which holds together what the other one does are one. -/
theorem both_ways {x y : List Int} (hl : x.length = y.length) (hx : Rt x) (hy : Rt y) (h1 : ∀ t, InR x.length t → g y t = g y (g x t)) (h2 : ∀ t, InR x.length t → g x t = g x (g y t)) : x = y := by
  refine ext_g hl fun t ht => ?_
  have a := (hy _ (by rw [← hl]; exact hx.inr ht)).2.1
  have b := (hx _ (by rw [hl]; exact hy.inr (by rw [← hl]; exact ht))).2.1
  rw [← h1 t ht] at a
  rw [← h2 t ht] at b
  omega
theorem univ_join {α : Type} (q : Int → α) {p : List Int} (hp : Rt p) {u v : Int} (hu : InR p.length u) (hv : InR p.length v) (hq : q u = q v) (h0 : ∀ x, InR p.length x → q x = q (g p x)) :
    ∀ x, InR p.length x → q x = q (g (joinL p u v) x) :=
  univ_foldJoin q [(u, v)] p hp (fun e he => by simp at he; subst he; exact ⟨hu, hv⟩) (fun e he => by simp at he; subst he; exact hq) h0
theorem joins_swap {p : List Int} (hp : Rt p) {u v w : Int} (hu : InR p.length u) (hv : InR p.length v) (hw : InR p.length w) : joinL (joinL p u v) v w = joinL (joinL p v w) u v := by
  have hu1 : InR (joinL p v w).length u := by rw [len_join]; exact hu
  have hv1 : InR (joinL p v w).length v := by rw [len_join]; exact hv
  have hv2 : InR (joinL p u v).length v := by rw [len_join]; exact hv
  have hw2 : InR (joinL p u v).length w := by rw [len_join]; exact hw
  have hR1 := hp.join hv hw
  have hR2 := hp.join hu hv
  have key : ∀ (a b c d : Int) (_ : InR p.length a) (_ : InR p.length b) (_ : InR p.length c) (_ : InR p.length d) (q : Int → Int), q a = q b → q c = q d → (∀ x, InR p.length x → q x = q (g p x)) →
      ∀ x, InR p.length x → q x = q (g (joinL (joinL p a b) c d) x) := by
    intro a b c d ha hb hc hd q h1 h2 h0 x hx
    have := univ_join q (hp.join ha hb) (u := c) (v := d) (by rw [len_join]; exact hc) (by rw [len_join]; exact hd) h2 (by rw [len_join]; exact univ_join q hp ha hb h1 h0)
    rw [len_join] at this
    exact this x hx
  have made : ∀ (a b c d : Int) (_ : InR p.length a) (_ : InR p.length b) (_ : InR p.length c) (_ : InR p.length d),
      g (joinL (joinL p a b) c d) a = g (joinL (joinL p a b) c d) b ∧ g (joinL (joinL p a b) c d) c = g (joinL (joinL p a b) c d) d ∧ ∀ x, InR p.length x → g (joinL (joinL p a b) c d) x = g (joinL (joinL p a b) c d) (g p x) := by
    intro a b c d ha hb hc hd
    refine ⟨join_same (by rw [len_join]; exact ha) (by rw [len_join]; exact hb) (join_made ha hb), join_made (by rw [len_join]; exact hc) (by rw [len_join]; exact hd), fun x hx => ?_⟩
    exact join_same (by rw [len_join]; exact hx) (by rw [len_join]; exact hp.inr hx) (join_same hx (hp.inr hx) ((hp x hx).2.2.symm))
  have m1 := made u v v w hu hv hv hw
  have m2 := made v w u v hv hw hu hv
  refine both_ways (by simp [len_join]) (hR2.join hv2 hw2) (hR1.join hu1 hv1) (fun t ht => ?_) (fun t ht => ?_)
  · rw [len_join, len_join] at ht
    exact key u v v w hu hv hv hw (g (joinL (joinL p v w) u v)) m2.2.1 m2.1 m2.2.2 t ht
  · rw [len_join, len_join] at ht
    exact key v w u v hv hw hu hv (g (joinL (joinL p u v) v w)) m1.2.1 m1.1 m1.2.2 t ht
theorem joinF_swap {p : List Int} (h : rightB p = true) {u v w : Int} (hu : InR p.length u) (hv : InR p.length v) (hw : InR p.length w) :
    joinF (joinF p u v) v w = joinF (joinF p v w) u v := by
  rw [joinF_in (rightB_joinF h u v) (by rw [len_joinF]; exact hv) (by rw [len_joinF]; exact hw), joinF_in (rightB_joinF h v w) (by rw [len_joinF]; exact hu) (by rw [len_joinF]; exact hv), joinF_in h hu hv, joinF_in h hv hw]
  exact joins_swap ((rightB_iff p).1 h) hu hv hw

/-! ## More edges -/
theorem partOf_subset {n : Nat} {l l' : List (Int × Int)} (h : MayL n l) (h' : MayL n l') (hs : ∀ e ∈ l, e ∈ l' ∨ (e.2, e.1) ∈ l') : ∀ t, InR n t → g (partOf n l') t = g (partOf n l') (g (partOf n l) t) :=
  univ_partOf (g (partOf n l')) h fun e he => by
    rcases hs e he with h2 | h2
    · exact made_partOf h' e h2
    · exact (made_partOf h' _ h2).symm
theorem partOf_same {n : Nat} {l l' : List (Int × Int)} (h : MayL n l) (h' : MayL n l') (hs : ∀ e ∈ l, e ∈ l' ∨ (e.2, e.1) ∈ l') (hs' : ∀ e ∈ l', e ∈ l ∨ (e.2, e.1) ∈ l) : partOf n l = partOf n l' := by
  refine both_ways (by rw [len_partOf, len_partOf]) (Rt_partOf h) (Rt_partOf h') (fun t ht => ?_) (fun t ht => ?_)
  · rw [len_partOf] at ht; exact partOf_subset h h' hs t ht
  · rw [len_partOf] at ht; exact partOf_subset h' h hs' t ht
theorem cnt_joinL {p : List Int} (h : Rt p) {u v : Int} (hu : InR p.length u) (hv : InR p.length v) : cnt (joinL p u v) ≤ cnt p ∧ cnt p ≤ cnt (joinL p u v) + 1 := by
  by_cases he : g p u = g p v
  · rw [join_id he]; omega
  · have := cnt_join h hu hv he; omega
theorem cnt_idl (n : Nat) : cnt (idl n) = n := by
  unfold cnt
  rw [len_idl, List.countP_eq_length_filter]
  have : (List.range n).filter (fun v : Nat => decide (g (idl n) (v : Int) = (v : Int))) = List.range n := by
    rw [List.filter_eq_self]
    intro a ha
    have : a < n := by simpa using ha
    simp [g_idl (n := n) (v := (a : Int)) ⟨by omega, by omega⟩]
  rw [this]; simp
theorem manyZ_of {p : List Int} (h : Rt p) : manyZ p = cnt p := by unfold manyZ; rw [(rightB_iff p).2 h]; rfl

/-! ## Classes -/
theorem classL_eq {p : List Int} (h : Rt p) {v : Int} (hv : InR p.length v) : classL p v = clK p v p.length := by
  unfold classL; rw [(rightB_iff p).2 h, (placeB_iff _ _).2 hv]; rfl
theorem mem_clK {p : List Int} {v x : Int} {n : Nat} : x ∈ clK p v n ↔ InR n x ∧ g p x = g p v := by
  unfold clK
  simp only [List.mem_map, List.mem_filter, List.mem_range, decide_eq_true_eq]
  constructor
  · rintro ⟨i, ⟨h1, h2⟩, rfl⟩
    exact ⟨⟨by simp, by simpa using h1⟩, h2⟩
  · rintro ⟨⟨h1, h2⟩, h3⟩
    refine ⟨x.toNat, ⟨by omega, ?_⟩, by simp; omega⟩
    rw [show ((x.toNat : Nat) : Int) = x by omega]; exact h3
theorem asc_clK (p : List Int) (v : Int) (n : Nat) : (clK p v n).Pairwise (· < ·) := by
  unfold clK
  rw [List.pairwise_map]
  refine List.Pairwise.filter _ ?_
  exact (List.pairwise_lt_range (n := n)).imp (by intro a b h; simpa using h)
theorem asc_at {l : List Int} (h : l.Pairwise (· < ·)) {i : Nat} (h0 : 0 < i) (h1 : i < l.length) : l.getD (i - 1) 0 < l.getD i 0 := by
  have := List.pairwise_iff_getElem.1 h (i - 1) i (by omega) h1 (by omega)
  simpa [List.getD, h1, show i - 1 < l.length by omega] using this
theorem mem_at {l : List Int} {x : Int} (h : x ∈ l) : ∃ i, i < l.length ∧ l.getD i 0 = x := by
  obtain ⟨i, hi, rfl⟩ := List.getElem_of_mem h
  exact ⟨i, hi, by simp [List.getD, hi]⟩
theorem at_mem {l : List Int} {i : Nat} (h : i < l.length) : l.getD i 0 ∈ l := by
  simp [List.getD, h]
theorem first_clK {p : List Int} (h : Rt p) {v : Int} (hv : InR p.length v) : 0 < (clK p v p.length).length ∧ (clK p v p.length).getD 0 0 = g p v := by
  have hr := h.inr hv
  have hm : g p v ∈ clK p v p.length := mem_clK.2 ⟨hr, (h v hv).2.2⟩
  obtain ⟨i, hi, he⟩ := mem_at hm
  refine ⟨by omega, ?_⟩
  have h0 := mem_clK.1 (at_mem (l := clK p v p.length) (i := 0) (by omega))
  have h1 := (h _ h0.1).2.1
  rw [h0.2] at h1
  by_cases h2 : i = 0
  · subst h2; exact he
  · have := List.pairwise_iff_getElem.1 (asc_clK p v p.length) 0 i (by omega) hi (by omega)
    have e1 : (clK p v p.length)[0]'(by omega) = (clK p v p.length).getD 0 0 := by simp [List.getD, show 0 < (clK p v p.length).length by omega]
    have e2 : (clK p v p.length)[i]'hi = (clK p v p.length).getD i 0 := by simp [List.getD, hi]
    rw [e1, e2, he] at this
    omega
theorem same_class {p : List Int} (h : Rt p) {v w : Int} (hv : InR p.length v) (hw : InR p.length w) : (clK p w p.length == clK p v p.length) = decide (g p v = g p w) := by
  rw [Bool.eq_iff_iff]
  simp only [beq_iff_eq, decide_eq_true_eq]
  constructor
  · intro e
    have h1 := (first_clK h hw).2
    rw [e, (first_clK h hv).2] at h1
    exact h1
  · intro e; unfold clK; rw [e]
def inB (l : List Int) (v : Int) (i : Nat) : Bool := (l.take i).any (· == v)
theorem inB_step (l : List Int) (v : Int) {i : Nat} (h : i < l.length) : inB l v (i + 1) = (inB l v i || (l.getD i 0 == v)) := by
  unfold inB
  rw [List.take_succ_eq_append_getElem h, List.any_append]
  simp [List.getD, h]
theorem inB_all {l : List Int} {v : Int} (h : v ∈ l) : inB l v l.length = true := by
  unfold inB
  rw [List.take_length, List.any_eq_true]
  exact ⟨v, h, by simp⟩

end Pt
