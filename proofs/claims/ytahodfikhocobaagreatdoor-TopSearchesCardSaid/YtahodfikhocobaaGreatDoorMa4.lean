/- The texts TopD, TopE, TopF, TpA, SnF, SkB, SkC, SkD, merged. No theorem here is a claim by itself. -/
import Derived.Test.YtahodfikhocobaaGreatDoorMa3
import Derived.Deep.RegionHeld3
import Derived.Laws.Bits64
namespace Tp
open Pt
set_option linter.unusedVariables false
section
variable {n : Nat} {L : Int} {es : List Ed}
theorem mem_set_in {i : Nat} {e : Ed} (hi : es[i]? = some e) {t s : Int} (ht : 1 ≤ t) (hs : t ≤ s) (x : PE) : x ∈ uv (fr s (es.set i (e.1, e.2.1, t))) ↔ x ∈ uv (fr s es) ∨ x = (e.1, e.2.1) := by
  have hil : i < es.length := (List.getElem?_eq_some_iff.1 hi).1
  rw [mem_uv_fr, mem_uv_fr]
  constructor
  · rintro ⟨j, d, hj, hd, rfl⟩
    by_cases hji : i = j
    · subst hji
      simp [hil] at hj
      subst hj
      exact .inr rfl
    · rw [List.getElem?_set_ne hji] at hj
      exact .inl ⟨j, d, hj, hd, rfl⟩
  · rintro (⟨j, d, hj, hd, rfl⟩ | rfl)
    · by_cases hji : i = j
      · subst hji
        rw [hi] at hj; injection hj with hj; subst hj
        exact ⟨i, (e.1, e.2.1, t), by simp [hil], ⟨ht, hs⟩, rfl⟩
      · exact ⟨j, d, by rw [List.getElem?_set_ne hji]; exact hj, hd, rfl⟩
    · exact ⟨i, (e.1, e.2.1, t), by simp [hil], ⟨ht, hs⟩, rfl⟩
theorem mem_set_del (h : Tb n es) {j : Nat} {d : Ed} (hj : es[j]? = some d) {s : Int} (x : PE) : x ∈ uv (fr s (es.set j (d.1, d.2.1, 0))) ↔ x ∈ uv (fr s es) ∧ x ≠ (d.1, d.2.1) := by
  have hil : j < es.length := (List.getElem?_eq_some_iff.1 hj).1
  rw [mem_uv_fr, mem_uv_fr]
  constructor
  · rintro ⟨i, e, hi, he, rfl⟩
    by_cases hji : j = i
    · subst hji
      simp [hil] at hi
      subst hi
      exact absurd he.1 (by simp)
    · rw [List.getElem?_set_ne hji] at hi
      refine ⟨⟨i, e, hi, he, rfl⟩, fun hx => ?_⟩
      injection hx with h1 h2
      exact hji (h.inj hj hi h1.symm h2.symm)
  · rintro ⟨⟨i, e, hi, he, rfl⟩, hx⟩
    have hji : j ≠ i := by
      rintro rfl
      rw [hj] at hi; injection hi with hi; subst hi; exact hx rfl
    exact ⟨i, e, by rw [List.getElem?_set_ne hji]; exact hi, he, rfl⟩
theorem filter_set {α : Type} (p : α → Bool) (l : List α) {i : Nat} {a b : α} (hi : l[i]? = some a) (ha : p a = false) (hb : p b = false) : (l.set i b).filter p = l.filter p := by
  induction l generalizing i with
  | nil => simp at hi
  | cons c l ih =>
    cases i with
    | zero =>
      simp at hi; subst hi
      simp [ha, hb]
    | succ i =>
      simp at hi
      simp [List.filter_cons, ih hi]
theorem fr_set_out {i : Nat} {e : Ed} (hi : es[i]? = some e) {t s : Int} (h1 : e.2.2 = 0 ∨ s < e.2.2) (h2 : t = 0 ∨ s < t) : fr s (es.set i (e.1, e.2.1, t)) = fr s es := by
  unfold fr
  refine filter_set _ _ hi ?_ ?_
  · rcases h1 with h | h
    · simp [h]
    · simp; omega
  · rcases h2 with h | h
    · simp [h]
    · simp; omega
/-- A path's edge d: what holds the ends of the others together. -/
theorem sep_split {l : List Ed} (h : Tb n l) (hf : Fst n (uv l)) {a b : Int} (ha : InR n a) (hb : InR n b) {d : Ed} (hd : d ∈ seps n l a b) :
    ∀ q : Int → Int, (∀ e ∈ seps n l a b, e ≠ d → q e.1 = q e.2.1) → q a = q b → q d.1 = q d.2.1 := by
  obtain ⟨hc, hdl, _⟩ := mem_seps.1 hd
  obtain ⟨p, hp⟩ := way (uv l) hf.1 a b ha hb hc
  have hd' := (seps_way h hf hp d).1 hd
  unfold edsAt at hd'
  obtain ⟨i, hi, hid⟩ := List.mem_filterMap.1 hd'
  obtain ⟨k, hk, rfl⟩ := List.mem_iff_getElem.1 hi
  have hdu : (uv l)[p[k]]? = some (d.1, d.2.1) := by simp [uv, hid]
  obtain ⟨e, x, he, hx, h1, h2, h3⟩ := Tr.split_ _ _ _ hp.1 hk
  rw [hdu] at he; injection he with he; subst he
  have hn := hp.2
  rw [h3, List.nodup_append] at hn
  obtain ⟨_, _, hdj⟩ := hn
  have hm1 := h1.last
  have hm2 := Vs_mem (uv l) (oth (d.1, d.2.1) x) (p.drop (k + 1))
  have n1 : p[k] ∉ p.take k := fun hi => by
    have := h1.ends _ _ hi hdu
    rcases oth_cases hx with ⟨a, b⟩ | ⟨a, b⟩
    · exact hdj _ this.2 _ hm2 b
    · exact hdj _ this.1 _ hm2 b
  have n2 : p[k] ∉ p.drop (k + 1) := fun hi => by
    have := h2.ends _ _ hi hdu
    rcases oth_cases hx with ⟨a, b⟩ | ⟨a, b⟩
    · exact hdj _ hm1 _ this.1 a.symm
    · exact hdj _ hm1 _ this.2 a.symm
  intro q hq hab
  have key : ∀ {r : List Nat} {y z : Int}, (∀ i ∈ r, i ∈ p) → p[k] ∉ r → Tr (uv l) y r z → q y = q z := by
    intro r y z hr hnr ht
    refine ht.univ q fun i hi e he => ?_
    unfold uv at he
    rw [List.getElem?_map] at he
    cases hl : l[i]? with
    | none => rw [hl] at he; simp at he
    | some c =>
      rw [hl] at he; simp at he; subst he
      refine hq c ((seps_way h hf hp c).2 (List.mem_filterMap.2 ⟨i, hr i hi, hl⟩)) ?_
      rintro rfl
      have := h.inj hl hid rfl rfl
      exact hnr (this ▸ hi)
  have c1 := key (fun i hi => List.mem_of_mem_take hi) n1 h1
  have c2 := key (fun i hi => List.mem_of_mem_drop hi) n2 h2
  refine (oth_eq (e := (d.1, d.2.1)) q hx).2 ?_
  rw [← c1, hab, c2]
/-- The forest behind a swap. -/
theorem Gd.swap_fst (h : Gd n L es) {i j : Nat} {e d : Ed} (hi : es[i]? = some e) (hj : es[j]? = some d) (hij : j ≠ i) (hd : d ∈ seps n (fr L es) e.1 e.2.1) {t : Int} (ht : 1 ≤ t) (htL : t ≤ L) (h16 : t ≤ 16) :
    Gd n L ((es.set j (d.1, d.2.1, 0)).set i (e.1, e.2.1, t)) := by
  have hi' : (es.set j (d.1, d.2.1, 0))[i]? = some e := by rw [List.getElem?_set_ne hij]; exact hi
  have tb1 := h.tb.set hj (t := 0) (by omega)
  have tb2 := tb1.set hi' (t := t) (by omega)
  obtain ⟨i1, i2⟩ := h.in1 (List.mem_of_getElem? hi)
  obtain ⟨hc, hdl, hs⟩ := mem_seps.1 hd
  refine ⟨tb2, ?_, ?_⟩
  · intro x hx
    rcases List.mem_or_eq_of_mem_set hx with hx | rfl
    · rcases List.mem_or_eq_of_mem_set hx with hx | rfl
      · exact h.tr x hx
      · show (0 : Int) ≤ L; omega
    · exact htL
  · have hb : Fst n (uv (but (fr L es) d)) := fst_sub h.fs ((h.tb.fr L).sub List.filter_sublist).nodup (fun x hx => by
      obtain ⟨y, hy, rfl⟩ := uv_mem.1 hx
      exact uv_mem.2 ⟨y, (mem_but.1 hy).1, rfl⟩)
    have h2 : Fst n (uv (but (fr L es) d) ++ [(e.1, e.2.1)]) := hb.snoc i1 i2 hs
    refine fst_perm h2 (uv_fr_nodup tb2 L) (fun x => ?_)
    rw [mem_set_in hi' ht htL, mem_set_del h.tb hj, List.mem_append]
    have : x ∈ uv (but (fr L es) d) ↔ x ∈ uv (fr L es) ∧ x ≠ (d.1, d.2.1) := by
      rw [uv_mem, uv_mem]
      constructor
      · rintro ⟨y, hy, rfl⟩
        obtain ⟨y1, y2⟩ := mem_but.1 hy
        refine ⟨⟨y, y1, rfl⟩, fun hx => y2 ?_⟩
        injection hx with k1 k2
        exact (h.tb.fr L).ends y1 hdl k1 k2
      · rintro ⟨⟨y, hy, rfl⟩, hx⟩
        refine ⟨y, mem_but.2 ⟨hy, ?_⟩, rfl⟩
        rintro rfl
        exact hx rfl
    rw [this]
    simp
theorem Rs.gd (h : Gd n L es) (hL : L ≤ 16) {t : Nat} (ht : (t : Int) + 1 ≤ L) {v : Int} (hv : InR n v) {S : Nat → List PE → Option Nat} {es' : List Ed} (hr : Rs n L es t v S es') : Gd n L es' := by
  cases hr with
  | grown _ => exact h
  | none _ _ => exact h
  | one hl i e hi hc ht' =>
    have tb2 := h.tb.set hi (t := (t : Int) + 1) (by omega)
    obtain ⟨i1, i2⟩ := h.in1 (List.mem_of_getElem? hi)
    refine ⟨tb2, ?_, ?_⟩
    · intro x hx
      rcases List.mem_or_eq_of_mem_set hx with hx | rfl
      · exact h.tr x hx
      · exact ht
    · by_cases hcn : Cn n (uv (fr L es)) e.1 e.2.1
      · have h0 : e.2.2 ≠ 0 := ht'.resolve_right (fun h => h hcn)
        have hem : (e.1, e.2.1) ∈ uv (fr L es) := uv_mem.2 ⟨e, mem_fr.2 ⟨List.mem_of_getElem? hi, by have := (h.tb.1 e (List.mem_of_getElem? hi)).2.2.2.1; omega, h.tr e (List.mem_of_getElem? hi)⟩, rfl⟩
        refine fst_perm h.fs (uv_fr_nodup tb2 L) (fun x => ?_)
        rw [mem_set_in hi (by omega) ht]
        constructor
        · exact .inl
        · rintro (h | rfl)
          · exact h
          · exact hem
      · refine fst_perm (h.fs.snoc (e := (e.1, e.2.1)) i1 i2 hcn) (uv_fr_nodup tb2 L) (fun x => ?_)
        rw [mem_set_in hi (by omega) ht, List.mem_append]
        simp
  | two hl i e hi hc h0 hcn j d hj hij hd hg hdt => exact h.swap_fst hi hj hij hd (by omega) ht (by omega)
/-- The partition of each tier. -/
def Pp (n : Nat) (L : Int) (es : List Ed) (s : Nat) : List Int := partOf n (uv (fr (min (s : Int) L) es))
theorem len_Pp (s : Nat) : (Pp n L es s).length = n := len_partOf _ _
theorem joinL_comm (p : List Int) (a b : Int) : joinL p a b = joinL p b a := by
  unfold joinL; rw [Int.max_comm, Int.min_comm]
theorem Rs.stp (h : Gd n L es) {t : Nat} (ht : (t : Int) + 1 ≤ L) {v : Int} (hv : InR n v) {S : Nat → List PE → Option Nat} {es' : List Ed} (hr : Rs n L es t v S es') :
    Stp n (fun s c => S s ((uv es).filter (crB c)) ≠ Option.none) (Pp n L es) (Pp n L es') t v := by
  have hmt : min (t : Int) L = t := by omega
  have hmt1 : min ((t + 1 : Nat) : Int) L = (t : Int) + 1 := by omega
  have tcl : ∀ {x : Int}, InR n x → (Cl (Pp n L es t) x v ↔ Cn n (uv (fr t es)) x v) := by
    intro x hx; unfold Pp; rw [hmt]; rfl
  -- the step that raises e, given the partitions of all tiers behind it
  have key : ∀ (e : Ed), e ∈ es → crB (treeL n es t v) (e.1, e.2.1) = true → (treeL n es t v).length = (treeL n es ((t : Int) + 1) v).length →
      (∀ s : Int, s ≤ L → s ≤ t → partOf n (uv (fr s es')) = partOf n (uv (fr s es))) → (∀ s : Int, s ≤ L → (t : Int) < s → partOf n (uv (fr s es')) = joinL (partOf n (uv (fr s es))) e.1 e.2.1) →
      Stp n (fun s c => S s ((uv es).filter (crB c)) ≠ Option.none) (Pp n L es) (Pp n L es') t v := by
    intro e he hc hl hlo hhi
    obtain ⟨i1, i2⟩ := h.in1 he
    obtain ⟨nc, hx⟩ := h.cross ht hv hl he hc
    have up : ∀ {a : Int}, InR n a → Cn n (uv (fr t es)) a v → ∀ s : Nat, t ≤ s → Cl (Pp n L es s) a v := by
      intro a ha hca s hs
      exact h.up (s := t) (t := min (s : Int) L) (by omega) (by omega) ha hv hca
    have lo' : ∀ s, s ≤ t → Pp n L es' s = Pp n L es s := fun s hs => hlo _ (by omega) (by omega)
    have hi' : ∀ s, t < s → Pp n L es' s = joinL (Pp n L es s) e.1 e.2.1 := fun s hs => hhi _ (by omega) (by omega)
    have ncl : ¬ Cl (Pp n L es t) e.1 e.2.1 := by
      intro hcl
      refine nc ?_
      unfold Pp at hcl; rw [hmt] at hcl
      exact h.up (s := t) (by omega) ht i1 i2 hcl
    rcases hx with ⟨a, b⟩ | ⟨a, b⟩
    · exact .inr ⟨e.1, e.2.1, ⟨i1, i2, fun s => len_Pp s, lo', hi'⟩, up i1 a, ncl⟩
    · exact .inr ⟨e.2.1, e.1, ⟨i2, i1, fun s => len_Pp s, lo', fun s hs => by rw [hi' s hs, joinL_comm]⟩, up i2 a, fun hcl => ncl hcl.symm⟩
  cases hr with
  | grown hl =>
    refine .inl ⟨fun _ => rfl, fun _ => ?_⟩
    refine Classical.byContradiction fun hn => hl ?_
    refine congrArg List.length ((h.tree_le (t := t) (by omega) ht hv).eq_of_length_le ?_)
    refine Nat.le_of_eq (congrArg List.length (Eq.symm ?_))
    rw [h.tree (by omega) hv, h.tree ht hv]
    unfold cls
    rw [len_partOf, len_partOf]
    refine congrArg _ (List.filter_congr fun i hi => ?_)
    have hir : InR n (i : Int) := ⟨by omega, by have := List.mem_range.1 hi; omega⟩
    rw [decide_eq_decide]
    constructor
    · intro hc
      exact h.up (s := t) (by omega) ht hir hv hc
    · intro hc
      refine Decidable.byContradiction fun hnc => hn ⟨i, hir, ?_, ?_⟩
      · unfold Pp Cl; rw [hmt1]; exact hc.symm
      · unfold Pp Cl; rw [hmt]; exact fun e => hnc e.symm
  | none hl hs =>
    refine .inl ⟨fun _ => rfl, fun hF => absurd ?_ hF⟩
    have e1 : cls (Pp n L es t) v = treeL n es t v := by
      rw [h.tree (by omega) hv]; unfold Pp; rw [hmt]
    have e2 : (uv es).filter (crB (treeL n es t v)) = uv (cutL es (treeL n es t v)) := by
      unfold uv cutL; rw [List.filter_map]; rfl
    simp only [e1, e2]; exact hs
  | one hl i e hi hc ht' =>
    obtain ⟨nc, _⟩ := h.cross ht hv hl (List.mem_of_getElem? hi) hc
    have htier := h.tier ht (List.mem_of_getElem? hi) nc
    refine key e (List.mem_of_getElem? hi) hc hl (fun s hs hst => ?_) (fun s hs hst => ?_)
    · rw [fr_set_out hi (by omega) (.inr (by omega))]
    · exact pa_set h.tb.may hi (by omega) (by omega)
  | two hl i e hi hc h0 hcn j d hj hij hd hg hdt =>
    obtain ⟨i1, i2⟩ := h.in1 (List.mem_of_getElem? hi)
    have hi' : (es.set j (d.1, d.2.1, 0))[i]? = some e := by rw [List.getElem?_set_ne hij]; exact hi
    have tb1 := h.tb.set hj (t := 0) (by omega)
    refine key e (List.mem_of_getElem? hi) hc hl (fun s hs hst => ?_) (fun s hs hst => ?_)
    · rw [fr_set_out hi' (.inl h0) (.inr (by omega)), fr_set_out hj (.inr (by omega)) (.inl rfl)]
    · rw [pa_set tb1.may hi' (by omega) (by omega)]
      by_cases hsd : s < d.2.2
      · rw [fr_set_out hj (.inr hsd) (.inl rfl)]
      · have hfs := fst_low h.tb h.fs hs
        have hcs : Cn n (uv (fr s es)) e.1 e.2.1 := (cn_low h.tb h.fs hs i1 i2).2 ⟨hcn, fun x hx => by have := hg x hx; omega⟩
        have e1 : joinL (partOf n (uv (fr s es))) e.1 e.2.1 = partOf n (uv (fr s es)) := join_id hcs
        have e2 := partOf_snoc n (uv (fr s (es.set j (d.1, d.2.1, 0)))) (e.1, e.2.1)
        rw [e1]
        rw [← e2]
        have hm1 : MayL n (uv (fr s (es.set j (d.1, d.2.1, 0))) ++ [(e.1, e.2.1)]) := by
          intro x hx
          rcases List.mem_append.1 hx with hx | hx
          · exact may_fr tb1.may x hx
          · simp at hx; subst hx; exact ⟨i1, i2⟩
        have old : ∀ x : Ed, x ∈ es → 1 ≤ x.2.2 → x.2.2 ≤ s → x ≠ d → (x.1, x.2.1) ∈ uv (fr s (es.set j (d.1, d.2.1, 0))) ++ [(e.1, e.2.1)] := by
          intro x hx h1 h2 hne
          refine List.mem_append_left _ ((mem_set_del h.tb hj _).2 ⟨uv_mem.2 ⟨x, mem_fr.2 ⟨hx, h1, h2⟩, rfl⟩, fun hxe => hne ?_⟩)
          injection hxe with k1 k2
          exact h.tb.ends hx (List.mem_of_getElem? hj) k1 k2
        refine partOf_ext hfs.1 hm1 (fun x hx => ?_) (fun x hx => ?_)
        · obtain ⟨y, hy, rfl⟩ := uv_mem.1 hx
          obtain ⟨y1, y2, y3⟩ := mem_fr.1 hy
          by_cases hyd : y = d
          · subst hyd
            refine sep_split (h.tb.fr L) h.fs i1 i2 hd (g (partOf n (uv (fr s (es.set j (y.1, y.2.1, 0))) ++ [(e.1, e.2.1)]))) (fun z hz hne => ?_) ?_
            · obtain ⟨z1, z2, z3⟩ := mem_fr.1 (mem_seps.1 hz).2.1
              exact Cn.edge hm1 (old z z1 z2 (by have := hg z hz; omega) hne)
            · exact Cn.edge hm1 (e := (e.1, e.2.1)) (by simp)
          · exact Cn.edge hm1 (old y y1 y2 y3 hyd)
        · rcases List.mem_append.1 hx with hx | hx
          · exact Cn.edge hfs.1 ((mem_set_del h.tb hj _).1 hx).1
          · simp at hx; subst hx; exact hcs
end
end Tp
namespace Tp
open Pt
set_option linter.unusedVariables false
section
variable {n : Nat} {L : Int} {es : List Ed}
/-! ## Lesser tiers -/
theorem map_erase {α β : Type} (f : α → β) (l : List α) (i : Nat) : (l.eraseIdx i).map f = (l.map f).eraseIdx i := by
  induction l generalizing i with
  | nil => rfl
  | cons a l ih =>
    cases i with
    | zero => rfl
    | succ i => simp [ih]
/-! ## Mending -/
def mendF (n : Nat) (L : Int) (S : Nat → List PE → Option Nat) (es : List Ed) (u v : Int) : Nat → List Ed
  | 0 => es
  | T + 1 => raisedF n L S (raisedF n L S (mendF n L S es u v T) T u) T v
theorem mend_succ (S : Nat → List PE → Option Nat) (u v : Int) (T : Nat) : mendF n L S es u v (T + 1) = raisedF n L S (raisedF n L S (mendF n L S es u v T) T u) T v := by
  rw [mendF]
theorem Gd.raised (h : Gd n L es) (hL : L ≤ 16) {t : Nat} (ht : (t : Int) + 1 ≤ L) {v : Int} (hv : InR n v) {S : Nat → List PE → Option Nat} (hS : SOk S) : Gd n L (raisedF n L S es t v) := (h.rs ht hv hS).gd h hL ht hv
theorem Gd.mend (h : Gd n L es) (hL : L ≤ 16) {S : Nat → List PE → Option Nat} (hS : SOk S) {u v : Int} (hu : InR n u) (hv : InR n v) (T : Nat) (hT : (T : Int) ≤ L) : Gd n L (mendF n L S es u v T) := by
  induction T with
  | zero => exact h
  | succ T ih =>
    rw [mend_succ]
    have := ih (by omega)
    exact (this.raised hL (by omega) hu hS).raised hL (by omega) hv hS
theorem raised_uv (h : Gd n L es) {t : Nat} (ht : (t : Int) + 1 ≤ L) {v : Int} (hv : InR n v) {S : Nat → List PE → Option Nat} (hS : SOk S) : uv (raisedF n L S es t v) = uv es := by
  have hr := h.rs ht hv hS
  generalize raisedF n L S es t v = es' at hr
  cases hr with
  | grown _ => rfl
  | none _ _ => rfl
  | one hl i e hi hc _ => exact uv_set hi _
  | two hl i e hi hc h0 hcn j d hj hij hd hg hdt =>
    have hi' : (es.set j (d.1, d.2.1, 0))[i]? = some e := by rw [List.getElem?_set_ne hij]; exact hi
    rw [uv_set hi', uv_set hj]
/-! ## An edge that comes, or goes -/
def newE (u v : Int) : Ed := (min u v, max u v, 0)
def addF (es : List Ed) (u v : Int) : List Ed := es.takeWhile (fun e => lsB e (newE u v)) ++ newE u v :: es.dropWhile (fun e => lsB e (newE u v))
theorem lsB_iff (a b : Ed) : lsB a b = true ↔ Lt a b := by unfold lsB Lt; simp
theorem fi_none (h : Tb n es) {u v : Int} (hf : fiP (uv es) u v = none) : ∀ e ∈ es, ¬ (e.1 = min u v ∧ e.2.1 = max u v) := by
  intro e he ⟨h1, h2⟩
  have hx : (e.1, e.2.1) ∈ uv es := uv_mem.2 ⟨e, he, rfl⟩
  have := List.findIdx?_eq_none_iff.1 hf _ hx
  simp [fiB] at this
  rcases Int.le_total u v with hle | hle
  · rw [Int.min_eq_left hle] at h1; rw [Int.max_eq_right hle] at h2
    exact this.1 h1 h2
  · rw [Int.min_eq_right hle] at h1; rw [Int.max_eq_left hle] at h2
    exact this.2 h1 h2
theorem mem_add {u v : Int} (e : Ed) : e ∈ addF es u v ↔ e ∈ es ∨ e = newE u v := by
  unfold addF
  rw [List.mem_append, List.mem_cons]
  have : e ∈ es ↔ e ∈ es.takeWhile (fun e => lsB e (newE u v)) ∨ e ∈ es.dropWhile (fun e => lsB e (newE u v)) := by
    rw [← List.mem_append, List.takeWhile_append_dropWhile]
  rw [this]
  constructor
  · rintro (h | h | h)
    · exact .inl (.inl h)
    · exact .inr h
    · exact .inl (.inr h)
  · rintro ((h | h) | h)
    · exact .inl h
    · exact .inr (.inr h)
    · exact .inr (.inl h)
theorem dropWhile_gt {d : Ed} {l : List Ed} (hp : l.Pairwise Lt) (hne : ∀ e ∈ l, ¬ (e.1 = d.1 ∧ e.2.1 = d.2.1)) : ∀ e ∈ l.dropWhile (fun e => lsB e d), Lt d e := by
  induction l with
  | nil => intro e he; simp at he
  | cons a l ih =>
    rw [List.pairwise_cons] at hp
    rw [List.dropWhile_cons]
    by_cases hc : lsB a d = true
    · rw [if_pos hc]
      exact ih hp.2 (fun e he => hne e (List.mem_cons_of_mem _ he))
    · rw [if_neg hc]
      have h1 := hne a (by simp)
      have h2 : ¬ Lt a d := fun h => hc ((lsB_iff _ _).2 h)
      have h3 : Lt d a := by unfold Lt at *; omega
      intro e he
      rcases List.mem_cons.1 he with rfl | he
      · exact h3
      · have := hp.1 e he
        unfold Lt at *; omega
theorem takeWhile_all {α : Type} {p : α → Bool} {l : List α} : ∀ e ∈ l.takeWhile p, p e = true := by
  induction l with
  | nil => intro e he; simp at he
  | cons a l ih =>
    intro e he
    rw [List.takeWhile_cons] at he
    by_cases h : p a = true
    · rw [if_pos h] at he
      rcases List.mem_cons.1 he with rfl | he
      · exact h
      · exact ih e he
    · rw [if_neg h] at he; simp at he
theorem Tb.add (h : Tb n es) {u v : Int} (hu : InR n u) (hv : InR n v) (huv : u ≠ v) (hf : fiP (uv es) u v = none) : Tb n (addF es u v) := by
  constructor
  · intro e he
    rcases (mem_add e).1 he with he | rfl
    · exact h.1 e he
    · unfold EOk newE InR at *; simp; omega
  · unfold addF
    have hp := h.2
    rw [← List.takeWhile_append_dropWhile (p := fun e => lsB e (newE u v)) (l := es)] at hp
    rw [List.pairwise_append] at hp ⊢
    have hlt : ∀ e ∈ es.takeWhile (fun e => lsB e (newE u v)), Lt e (newE u v) := fun e he => (lsB_iff _ _).1 (takeWhile_all e he)
    refine ⟨hp.1, ?_, ?_⟩
    · rw [List.pairwise_cons]
      exact ⟨dropWhile_gt h.2 (fi_none h hf), hp.2.1⟩
    · intro a ha b hb
      rcases List.mem_cons.1 hb with rfl | hb
      · exact hlt a ha
      · exact hp.2.2 a ha b hb
theorem fr_add (s : Int) (u v : Int) : fr s (addF es u v) = fr s es := by
  unfold addF fr
  rw [List.filter_append, List.filter_cons_of_neg (by simp [newE]), ← List.filter_append, List.takeWhile_append_dropWhile]
theorem Gd.add (h : Gd n L es) {u v : Int} (hu : InR n u) (hv : InR n v) (huv : u ≠ v) (hf : fiP (uv es) u v = none) (hL : 0 ≤ L) : Gd n L (addF es u v) := by
  refine ⟨h.tb.add hu hv huv hf, ?_, ?_⟩
  · intro e he
    rcases (mem_add e).1 he with he | rfl
    · exact h.tr e he
    · exact hL
  · rw [fr_add]; exact h.fs
theorem Gd.del (h : Gd n L es) (i : Nat) : Gd n L (es.eraseIdx i) := by
  have hsub : (es.eraseIdx i).Sublist es := List.eraseIdx_sublist es i
  have tb := h.tb.sub hsub
  refine ⟨tb, fun e he => h.tr e (hsub.subset he), fst_sub h.fs (uv_fr_nodup tb L) (fun x hx => ?_)⟩
  obtain ⟨e, he, rfl⟩ := uv_mem.1 hx
  obtain ⟨h1, h2⟩ := mem_fr.1 he
  exact uv_mem.2 ⟨e, mem_fr.2 ⟨hsub.subset h1, h2⟩, rfl⟩
/-- The graph behind an edge that comes, and goes. -/
def insF (n : Nat) (L : Nat) (S : Nat → List PE → Option Nat) (es : List Ed) (u v : Int) : List Ed :=
  if InR n u ∧ InR n v ∧ u ≠ v ∧ fiP (uv es) u v = none then mendF n L S (addF es u v) u v L else es
def delF (n : Nat) (L : Nat) (S : Nat → List PE → Option Nat) (es : List Ed) (u v : Int) : List Ed :=
  if InR n u ∧ InR n v then (match fiP (uv es) u v with | some i => mendF n L S (es.eraseIdx i) u v L | none => es) else es
end
instance (n : Nat) (v : Int) : Decidable (InR n v) := by unfold InR; infer_instance
end Tp
namespace Tp
open Pt
set_option linter.unusedVariables false
section
variable {n : Nat} {L : Nat} {es : List Ed} {S : Nat → List PE → Option Nat}
def Fd (S : Nat → List PE → Option Nat) (ps : List PE) (s : Nat) (c : List Int) : Prop := S s (ps.filter (crB c)) ≠ none
def InvG (n L : Nat) (S : Nat → List PE → Option Nat) (es : List Ed) : Prop := Inv n (Fd S (uv es)) (Pp n L es) L
theorem mend_uv (h : Gd n L es) (hL : L ≤ 16) (hS : SOk S) {u v : Int} (hu : InR n u) (hv : InR n v) (T : Nat) (hT : T ≤ L) : uv (mendF n L S es u v T) = uv es := by
  induction T with
  | zero => rfl
  | succ T ih =>
    have g := h.mend (by omega) hS hu hv T (by omega)
    have g1 := g.raised (by omega) (by omega) hu hS (t := T)
    rw [mend_succ, raised_uv g1 (by omega) hv hS, raised_uv g (by omega) hu hS, ih (by omega)]
theorem mend_sofar (h : Gd n L es) (hL : L ≤ 16) (hS : SOk S) {u v : Int} (hu : InR n u) (hv : InR n v) (hf : ∀ s, Far n (Pp n L es) (Fd S (uv es)) u v s) (T : Nat) (hT : T ≤ L) :
    Sofar n (Fd S (uv es)) (Pp n L (mendF n L S es u v T)) u v T := by
  induction T with
  | zero => exact ⟨hf, fun s hs => absurd hs (by omega)⟩
  | succ T ih =>
    have g := h.mend (by omega) hS hu hv T (by omega)
    have g1 := g.raised (by omega) (by omega) hu hS (t := T)
    have u0 := mend_uv h hL hS hu hv T (by omega)
    have u1 : uv (raisedF n L S (mendF n L S es u v T) T u) = uv es := by rw [raised_uv g (by omega) hu hS, u0]
    have s1 := (g.rs (by omega) hu hS (t := T)).stp g (by omega) hu
    have s2 := (g1.rs (by omega) hv hS (t := T)).stp g1 (by omega) hv
    rw [u0] at s1
    rw [u1] at s2
    rw [mend_succ]
    exact (ih (by omega)).step hu hv s1 s2
theorem mend_inv (h : Gd n L es) (hL : L ≤ 16) (hS : SOk S) {u v : Int} (hu : InR n u) (hv : InR n v) (hf : ∀ s, Far n (Pp n L es) (Fd S (uv es)) u v s) : InvG n L S (mendF n L S es u v L) := by
  have hs := mend_sofar h hL hS hu hv hf L (Nat.le_refl _)
  have g := h.mend (by omega) hS hu hv L (Int.le_refl _)
  unfold InvG
  rw [mend_uv h hL hS hu hv L (Nat.le_refl _)]
  refine hs.inv hu hv fun s x y hx hy hc => ?_
  exact g.up (s := min (s : Int) L) (t := min ((s + 1 : Nat) : Int) L) (by omega) (by omega) hx hy hc
theorem filter_far {ps : List PE} {c : List Int} {x : PE} (h1 : x.1 ∉ c) (h2 : x.2 ∉ c) : crB c x = false := by unfold crB; simp [h1, h2]
theorem min_max (u v : Int) : (min u v = u ∧ max u v = v) ∨ (min u v = v ∧ max u v = u) := by omega
theorem inv_add (h : Gd n L es) (hL : L ≤ 16) (hS : SOk S) (hSL : ∀ t ps, L ≤ t → S t ps = none) (hi : InvG n L S es) {u v : Int} (hu : InR n u) (hv : InR n v) (huv : u ≠ v) (hf : fiP (uv es) u v = none) :
    InvG n L S (mendF n L S (addF es u v) u v L) := by
  refine mend_inv (h.add hu hv huv hf (by omega)) hL hS hu hv fun s x hx h1 h2 h3 => ?_
  have e1 : ∀ s, Pp n L (addF es u v) s = Pp n L es s := fun s => by unfold Pp; rw [fr_add]
  rw [e1] at h1 h2 h3
  have hsL : s < L := by
    refine Decidable.byContradiction fun hn => h3 ?_
    exact hSL _ _ (by omega)
  have hcu : u ∉ cls (Pp n L es s) x := fun hm => h1 (mem_cls.1 hm).2.symm
  have hcv : v ∉ cls (Pp n L es s) x := fun hm => h2 (mem_cls.1 hm).2.symm
  have e2 : (uv (addF es u v)).filter (crB (cls (Pp n L es s) x)) = (uv es).filter (crB (cls (Pp n L es s) x)) := by
    unfold addF uv
    have hnew : crB (cls (Pp n L es s) x) ((newE u v).1, (newE u v).2.1) = false := by
      refine filter_far (ps := []) ?_ ?_
      · show min u v ∉ _
        rcases min_max u v with ⟨h, _⟩ | ⟨h, _⟩ <;> rw [h] <;> assumption
      · show max u v ∉ _
        rcases min_max u v with ⟨_, h⟩ | ⟨_, h⟩ <;> rw [h] <;> assumption
    rw [List.map_append, List.map_cons, List.filter_append, List.filter_cons_of_neg (by rw [hnew]; simp), ← List.filter_append, ← List.map_append, List.takeWhile_append_dropWhile]
  unfold Fd at h3
  rw [e2] at h3
  obtain ⟨y, hy, c1, c2⟩ := hi s hsL x hx h3
  exact ⟨y, hy, by rw [e1]; exact c1, by rw [e1]; exact c2⟩
theorem filter_erase {α : Type} (p : α → Bool) (l : List α) (i : Nat) (h : ∀ a, l[i]? = some a → p a = false) : (l.eraseIdx i).filter p = l.filter p := by
  induction l generalizing i with
  | nil => rfl
  | cons a l ih =>
    cases i with
    | zero => simp [h a rfl]
    | succ i =>
      rw [List.eraseIdx_cons_succ, List.filter_cons, List.filter_cons, ih i (fun b hb => h b (by simpa using hb))]
theorem uv_erase (i : Nat) : uv (es.eraseIdx i) = (uv es).eraseIdx i := map_erase _ es i
/-- The partition behind an edge that goes is joined by it, or it is the same. -/
theorem pp_del (h : Gd n L es) {i : Nat} {e : Ed} (hi : es[i]? = some e) (s : Nat) : Pp n L es s = Pp n L (es.eraseIdx i) s ∨ Pp n L es s = joinL (Pp n L (es.eraseIdx i) s) e.1 e.2.1 := by
  have hmem : ∀ y : Ed, y ∈ es ↔ y ∈ es.eraseIdx i ∨ y = e := by
    intro y
    rw [mem_erase_iff hi y, List.mem_append, List.mem_singleton]
  unfold Pp
  generalize min (s : Int) (L : Int) = s'
  have hm := may_fr (t := s') h.tb.may
  by_cases he : 1 ≤ e.2.2 ∧ e.2.2 ≤ s'
  · right
    have h2 := partOf_snoc n (uv (fr s' (es.eraseIdx i))) (e.1, e.2.1)
    rw [← h2]
    refine (partOf_same hm fun x => ?_).symm
    rw [List.mem_append, List.mem_singleton, uv_mem, uv_mem]
    constructor
    · rintro ⟨y, hy, rfl⟩
      obtain ⟨y1, y2⟩ := mem_fr.1 hy
      rcases (hmem y).1 y1 with y1 | rfl
      · exact .inl ⟨y, mem_fr.2 ⟨y1, y2⟩, rfl⟩
      · exact .inr rfl
    · rintro (⟨y, hy, rfl⟩ | rfl)
      · obtain ⟨y1, y2⟩ := mem_fr.1 hy
        exact ⟨y, mem_fr.2 ⟨(hmem y).2 (.inl y1), y2⟩, rfl⟩
      · exact ⟨e, mem_fr.2 ⟨List.mem_of_getElem? hi, he⟩, rfl⟩
  · left
    refine (partOf_same hm fun x => ?_).symm
    rw [uv_mem, uv_mem]
    constructor
    · rintro ⟨y, hy, rfl⟩
      obtain ⟨y1, y2⟩ := mem_fr.1 hy
      rcases (hmem y).1 y1 with y1 | rfl
      · exact ⟨y, mem_fr.2 ⟨y1, y2⟩, rfl⟩
      · exact absurd y2 he
    · rintro ⟨y, hy, rfl⟩
      obtain ⟨y1, y2⟩ := mem_fr.1 hy
      exact ⟨y, mem_fr.2 ⟨(hmem y).2 (.inl y1), y2⟩, rfl⟩
theorem inv_del (h : Gd n L es) (hL : L ≤ 16) (hS : SOk S) (hSL : ∀ t ps, L ≤ t → S t ps = none) (hi : InvG n L S es) {u v : Int} (hu : InR n u) (hv : InR n v) {i : Nat} (hf : fiP (uv es) u v = some i) :
    InvG n L S (mendF n L S (es.eraseIdx i) u v L) := by
  obtain ⟨p, hp, hpe⟩ := fiP_some hf
  obtain ⟨e, he, hep⟩ : ∃ e, es[i]? = some e ∧ (e.1, e.2.1) = p := by
    unfold uv at hp; rw [List.getElem?_map] at hp
    cases hl : es[i]? with
    | none => rw [hl] at hp; simp at hp
    | some e => rw [hl] at hp; simp at hp; exact ⟨e, rfl, hp⟩
  subst hep
  have hends : (e.1 = u ∧ e.2.1 = v) ∨ (e.1 = v ∧ e.2.1 = u) := by simpa [fiB] using hpe
  obtain ⟨i1, i2⟩ := h.in1 (List.mem_of_getElem? he)
  have hd := h.del i
  -- trees without u and v are as they were
  have key : ∀ s x, InR n x → ¬ Cl (Pp n L (es.eraseIdx i) s) x u → ¬ Cl (Pp n L (es.eraseIdx i) s) x v → cls (Pp n L es s) x = cls (Pp n L (es.eraseIdx i) s) x ∧ ∀ y, InR n y → (Cl (Pp n L es s) x y ↔ Cl (Pp n L (es.eraseIdx i) s) x y) := by
    intro s x hx h1 h2
    have hb : ¬ Cl (Pp n L (es.eraseIdx i) s) x e.1 ∧ ¬ Cl (Pp n L (es.eraseIdx i) s) x e.2.1 := by
      rcases hends with ⟨a, b⟩ | ⟨a, b⟩ <;> rw [a, b]
      · exact ⟨h1, h2⟩
      · exact ⟨h2, h1⟩
    rcases pp_del h he s with hp | hp
    · rw [hp]; exact ⟨rfl, fun _ _ => Iff.rfl⟩
    · rw [hp]
      have x' : InR (Pp n L (es.eraseIdx i) s).length x := by rw [len_Pp]; exact hx
      have a' : InR (Pp n L (es.eraseIdx i) s).length e.1 := by rw [len_Pp]; exact i1
      have nc : ¬ Cl (joinL (Pp n L (es.eraseIdx i) s) e.1 e.2.1) x e.1 := by
        unfold Cl at hb ⊢
        rw [g_join_u a', g_join _ _ _ _ x']
        have := hb.1
        have := hb.2
        split <;> omega
      exact ⟨cls_far a' x' nc, fun y hy => (join_far a' x' nc).2 y (by rw [len_Pp]; exact hy)⟩
  refine mend_inv hd hL hS hu hv fun s x hx h1 h2 h3 => ?_
  obtain ⟨k1, k2⟩ := key s x hx h1 h2
  have hsL : s < L := by
    refine Decidable.byContradiction fun hn => h3 ?_
    exact hSL _ _ (by omega)
  have hcu : u ∉ cls (Pp n L es s) x := fun hm => h1 ((k2 u hu).1 (mem_cls.1 hm).2.symm)
  have hcv : v ∉ cls (Pp n L es s) x := fun hm => h2 ((k2 v hv).1 (mem_cls.1 hm).2.symm)
  have e2 : (uv (es.eraseIdx i)).filter (crB (cls (Pp n L es s) x)) = (uv es).filter (crB (cls (Pp n L es s) x)) := by
    rw [uv_erase]
    refine filter_erase _ _ _ fun a ha => ?_
    rw [hp] at ha; injection ha with ha; subst ha
    refine filter_far (ps := []) ?_ ?_
    · show e.1 ∉ _
      rcases hends with ⟨a, _⟩ | ⟨a, _⟩ <;> rw [a] <;> assumption
    · show e.2.1 ∉ _
      rcases hends with ⟨_, a⟩ | ⟨_, a⟩ <;> rw [a] <;> assumption
  unfold Fd at h3
  rw [← k1, e2] at h3
  obtain ⟨y, hy, c1, c2⟩ := hi s hsL x hx h3
  have c2' : ¬ Cl (Pp n L (es.eraseIdx i) s) x y := fun hc => c2 ((k2 y hy).2 hc)
  by_cases g1 : Cl (Pp n L (es.eraseIdx i) (s + 1)) x u
  · exact ⟨u, hu, g1, h1⟩
  · by_cases g2 : Cl (Pp n L (es.eraseIdx i) (s + 1)) x v
    · exact ⟨v, hv, g2, h2⟩
    · exact ⟨y, hy, ((key (s + 1) x hx g1 g2).2 y hy).1 c1, c2'⟩
theorem Gd.ins (h : Gd n L es) (hL : L ≤ 16) (hS : SOk S) (u v : Int) : Gd n L (insF n L S es u v) := by
  unfold insF
  split
  · rename_i hc
    exact (h.add hc.1 hc.2.1 hc.2.2.1 hc.2.2.2 (by omega)).mend (by omega) hS hc.1 hc.2.1 L (Int.le_refl _)
  · exact h
theorem Gd.dels (h : Gd n L es) (hL : L ≤ 16) (hS : SOk S) (u v : Int) : Gd n L (delF n L S es u v) := by
  unfold delF
  split
  · rename_i hc
    cases fiP (uv es) u v with
    | none => exact h
    | some i => exact (h.del i).mend (by omega) hS hc.1 hc.2 L (Int.le_refl _)
  · exact h
theorem inv_ins (h : Gd n L es) (hL : L ≤ 16) (hS : SOk S) (hSL : ∀ t ps, L ≤ t → S t ps = none) (hi : InvG n L S es) (u v : Int) : InvG n L S (insF n L S es u v) := by
  unfold insF
  split
  · rename_i hc
    exact inv_add h hL hS hSL hi hc.1 hc.2.1 hc.2.2.1 hc.2.2.2
  · exact hi
theorem inv_dels (h : Gd n L es) (hL : L ≤ 16) (hS : SOk S) (hSL : ∀ t ps, L ≤ t → S t ps = none) (hi : InvG n L S es) (u v : Int) : InvG n L S (delF n L S es u v) := by
  unfold delF
  split
  · rename_i hc
    cases hf : fiP (uv es) u v with
    | none => exact hi
    | some i => exact inv_del h hL hS hSL hi hc.1 hc.2 hf
  · exact hi
theorem gd_nil (hn : 0 < n) : Gd n L [] := by
  refine ⟨⟨fun e he => by simp at he, List.Pairwise.nil⟩, fun e he => by simp at he, ?_⟩
  refine ⟨fun x hx => by simp [fr, uv] at hx, ?_⟩
  show cnt (idl n) + 0 = n
  rw [cnt_idl]; rfl
theorem inv_nil (hn : 0 < n) (hS : SOk S) : InvG n L S [] := by
  intro s hs x hx hF
  refine absurd ?_ hF
  show S s [] = none
  cases h : S s [] with
  | none => rfl
  | some i => have := hS _ _ _ h; simp at this
/-- What the law asks. -/
theorem inv_law (h : Gd n L es) (hi : InvG n L S es) {v : Int} (hv : InR n v) {t : Nat} (ht : t < L) :
    0 < (treeL n es t v).length ∧ (treeL n es t v).length ≤ (treeL n es ((t : Int) + 1) v).length ∧ (treeL n es ((t : Int) + 1) v).length ≤ (treeL n es L v).length ∧
      (S t (uv (cutL es (treeL n es t v))) ≠ none → (treeL n es t v).length < (treeL n es ((t : Int) + 1) v).length) := by
  have hmt : min (t : Int) L = t := by omega
  have hmt1 : min ((t + 1 : Nat) : Int) L = (t : Int) + 1 := by omega
  have hle := (h.tree_le (t := t) (s := (t : Int) + 1) (by omega) (by omega) hv)
  refine ⟨?_, hle.length_le, (h.tree_le (t := (t : Int) + 1) (s := L) (by omega) (by omega) hv).length_le, fun hS => ?_⟩
  · exact List.length_pos_of_mem ((h.mem_tree (by omega) hv).2 ⟨hv, rfl⟩)
  · have e1 : cls (Pp n L es t) v = treeL n es t v := by
      rw [h.tree (by omega) hv]; unfold Pp; rw [hmt]
    have e2 : (uv es).filter (crB (treeL n es t v)) = uv (cutL es (treeL n es t v)) := by
      unfold uv cutL; rw [List.filter_map]; rfl
    have hF : Fd S (uv es) t (cls (Pp n L es t) v) := by unfold Fd; rw [e1, e2]; exact hS
    obtain ⟨y, hy, c1, c2⟩ := hi t ht v hv hF
    refine Decidable.byContradiction fun hn => ?_
    have hl : (treeL n es t v).length = (treeL n es ((t : Int) + 1) v).length := by have := hle.length_le; omega
    refine c2 ?_
    unfold Pp Cl at c1 ⊢
    rw [hmt1] at c1; rw [hmt]
    exact (h.tree_eq (t := t) (s := (t : Int) + 1) (by omega) (by omega) hv hl hy c1.symm).symm
end

/-! ## The search -/
def nmP (x : PE) : Nat := x.1.toNat * 16777216 + x.2.toNat
/-- The words of a cut's sketch. -/
def wsP (hl : List (Nat × Nat)) (R V : Nat) (ps : List PE) : List Nat := Sk.togs hl V (ps.map nmP) (List.replicate (R * V) 0)
def tryP (ps : List PE) (w : Nat) : Option Nat := fiP ps ((w / 16777216 : Nat) : Int) ((w % 16777216 : Nat) : Int)
def srP (hl : List (Nat × Nat)) (R V : Nat) (ps : List PE) : Option Nat := (Sk.nms (wsP hl R V ps)).findSome? (tryP ps)
def hsOf (hs : List (Nat × Nat)) (R t : Nat) : List (Nat × Nat) := (hs.drop (t * R)).take R
def Sof (hs : List (Nat × Nat)) (R V L : Nat) (t : Nat) (ps : List PE) : Option Nat := if t < L then srP (hsOf hs R t) R V ps else none
theorem Sof_ok (hs : List (Nat × Nat)) (R V L : Nat) : SOk (Sof hs R V L) := by
  intro t ps i h
  unfold Sof at h
  split at h
  · unfold srP at h
    obtain ⟨w, _, hw⟩ := List.exists_of_findSome?_eq_some h
    obtain ⟨x, hx, _⟩ := fiP_some hw
    exact (List.getElem?_eq_some_iff.1 hx).1
  · cases h
theorem Sof_end (hs : List (Nat × Nat)) (R V L : Nat) : ∀ t ps, L ≤ t → Sof hs R V L t ps = none := by
  intro t ps h
  unfold Sof; rw [if_neg (by omega)]
end Tp
namespace Go.Proofs.YtahodfikhocobaaGreatDoor
open Go.RowKit
set_option linter.unusedVariables false
set_option linter.unusedSimpArgs false
attribute [local go_sem ↓] Go.wp_at_zero Go.wp_at_succ
/-- A place that is found, or none. -/
def fiV : Option Nat → Value
  | some i => .tuple #[.int .i64 (i : Int), .bool true]
  | none => .tuple #[.int .i64 0, .bool false]
theorem fi_here {l : List (Int × Int × Int)} {u v : Int} {i : Nat} (h : i < l.length) (hb : Tp.fiB u v (l[i].1, l[i].2.1) = true) (hp : ∀ j, (h : j < l.length) → j < i → Tp.fiB u v (l[j].1, l[j].2.1) = false) : Tp.fiP (Pt.uv l) u v = some i := by
  refine List.findIdx?_eq_some_iff_getElem.2 ⟨by simp [Pt.uv, h], by simpa [Pt.uv] using hb, fun j hj => ?_⟩
  have := hp j (by omega) hj
  simpa [Pt.uv] using this
theorem fi_nowhere {l : List (Int × Int × Int)} {u v : Int} (hp : ∀ j, (h : j < l.length) → j < l.length → Tp.fiB u v (l[j].1, l[j].2.1) = false) : Tp.fiP (Pt.uv l) u v = none := by
  refine List.findIdx?_eq_none_iff.2 fun x hx => ?_
  obtain ⟨e, he, rfl⟩ := Tp.uv_mem.1 hx
  obtain ⟨j, hj, rfl⟩ := List.mem_iff_getElem.1 he
  exact hp j hj hj
theorem fi_next {l : List (Int × Int × Int)} {u v : Int} {i : Nat} (hp : ∀ j, (h : j < l.length) → j < i → Tp.fiB u v (l[j].1, l[j].2.1) = false) (hb : ∀ h : i < l.length, Tp.fiB u v (l[i].1, l[i].2.1) = false) : ∀ j, (h : j < l.length) → j < i + 1 → Tp.fiB u v (l[j].1, l[j].2.1) = false := by
  intro j h hj
  rcases Nat.lt_or_ge j i with h3 | h3
  · exact hp j h h3
  · have : j = i := by omega
    subst this; exact hb h
theorem fiB_yes {x y u v : Int} (h : Tp.fiB u v (x, y) = true) : ((x == u) = true ∧ (y == v) = true) ∨ ((x == u) = true ∧ (y == v) = false ∧ (x == v) = true ∧ (y == u) = true) ∨ ((x == u) = false ∧ (x == v) = true ∧ (y == u) = true) := by
  unfold Tp.fiB at h
  cases h1 : (x == u) <;> cases h2 : (y == v) <;> cases h3 : (x == v) <;> cases h4 : (y == u) <;> simp_all
theorem fiB_no {x y u v : Int} (h : Tp.fiB u v (x, y) = false) : ((x == u) = true ∧ (y == v) = false ∧ (x == v) = true ∧ (y == u) = false) ∨ ((x == u) = true ∧ (y == v) = false ∧ (x == v) = false) ∨ ((x == u) = false ∧ (x == v) = true ∧ (y == u) = false) ∨ ((x == u) = false ∧ (x == v) = false) := by
  unfold Tp.fiB at h
  cases h1 : (x == u) <;> cases h2 : (y == v) <;> cases h3 : (x == v) <;> cases h4 : (y == u) <;> simp_all
set_option maxRecDepth 100000 in
set_option maxHeartbeats 8000000 in
theorem nfind_any {v0 : Value} {m : Nat} {l : List (Int × Int × Int)} {u v : Int} {w : World} (hs : Sl w w.heap.size 3 v0 m (eds l)) :
    Calls Tryz.prog 26 #[v0, .int .i64 u, .int .i64 v] w fun e w' => e = .returned (fiV (Tp.fiP (Pt.uv l) u v)) ∧ Below w.heap.size w w' := by
  have hl : l.length = m := by have := hs.len; rw [len_eds] at this; omega
  obtain ⟨A, c, rfl, hnc, hcm, hll, hx⟩ := hs
  have hm : m ≤ 9223372036854775807 := by unfold maxLen at hcm; omega
  have HX := hid hx
  have HL := hid hl
  clear hx hll hl hcm hnc
  go_enter Tryz.func26, Tryz.ntmps26
  go_wp2_with fail
  go_loopw [12] (fun iv wr => ∃ i : Nat, i ≤ m ∧ iv = .int .i64 (i : Int) ∧ Hid (∀ j, (h : j < l.length) → j < i → Tp.fiB u v (l[j].1, l[j].2.1) = false) ∧ Hid (Below w.heap.size w wr)) (fun iv _ => m - (intOf iv).toNat)
  case atStart => exact ⟨0, Nat.zero_le _, rfl, hid (fun j _ hj => absurd hj (Nat.not_lt_zero _)), hid (Below.refl _ _)⟩
  case round =>
    obtain ⟨i, hi, rfl, HP, HBr⟩ := hrel
    by_cases hlt : i < m
    · have j0 : (i : Int) < (m : Int) := by omega
      have hil : i < l.length := by rw [HL.out]; exact hlt
      obtain ⟨b6, o6, rfl, hb6, hc6⟩ := HX.out (by omega)
      obtain ⟨p0, p1, p2⟩ := eds_cell hc6 hil
      have q0 := (HBr.out.cell (p := ⟨b6, o6 + i * 3, none⟩) hb6).trans p0
      have q1 := (HBr.out.cell (p := ⟨b6, o6 + i * 3 + 1, none⟩) hb6).trans p1
      have q2 := (HBr.out.cell (p := ⟨b6, o6 + i * 3 + 2, none⟩) hb6).trans p2
      have HY := hid (fun h => fi_here (u := u) (v := v) hil h HP.out)
      have HNX := hid (fun h : Tp.fiB u v (l[i].1, l[i].2.1) = false => fi_next HP.out (fun _ => h))
      obtain ⟨e, he⟩ : ∃ e, e = l[i] := ⟨_, rfl⟩
      rw [← he] at q0 q1 q2 HY HNX
      obtain ⟨x, y, t⟩ := e
      dsimp only at q0 q1 q2 HY HNX
      clear he p0 p1 p2 hc6 hil
      have HBN := hid (Bl.new HBr.out (.cells #[.int .i64 x, .int .i64 y, .int .i64 t] 35))
      cases hb : Tp.fiB u v (x, y) with
      | true =>
        have HR := hid (HY.out hb)
        have hc := fiB_yes hb
        clear HY HNX hb
        rcases hc with ⟨e1, e2⟩ | ⟨e1, e2, e3, e4⟩ | ⟨e1, e3, e4⟩
        all_goals
          go_wp2
          go_ret2
          exact ⟨by rw [HR.out]; rfl, HBN.out⟩
      | false =>
        have HN := hid (HNX.out hb)
        have hc := fiB_no hb
        clear HY HNX hb
        rcases hc with ⟨e1, e2, e3, e4⟩ | ⟨e1, e2, e3⟩ | ⟨e1, e3, e4⟩ | ⟨e1, e3⟩
        all_goals
          go_wp2_with fail
          go_roundw
          case rel => exact ⟨i + 1, by omega, by go_num, HN, HBN⟩
          case measure => simp [intOf]; omega
    · have j0 : ¬ (i : Int) < (m : Int) := by omega
      obtain rfl : i = m := by omega
      have HR : Hid (Tp.fiP (Pt.uv l) u v = none) := hid (fi_nowhere (fun j h hj => HP.out j h (by rw [← HL.out]; exact hj)))
      go_wp2
      go_ret2
      exact ⟨by rw [HR.out]; rfl, HBr.out⟩
theorem nfind_is {v0 : Value} {m : Nat} {l : List (Int × Int × Int)} {u v : Int} {w : World} (hs : Sl w w.heap.size 3 v0 m (eds l)) {i : Nat} (h : Tp.fiP (Pt.uv l) u v = some i) :
    Calls Tryz.prog 26 #[v0, .int .i64 u, .int .i64 v] w fun e w' => e = .returned (.tuple #[.int .i64 (i : Int), .bool true]) ∧ Below w.heap.size w w' := by
  have := nfind_any (u := u) (v := v) hs
  rw [h] at this; exact this
theorem nfind_no {v0 : Value} {m : Nat} {l : List (Int × Int × Int)} {u v : Int} {w : World} (hs : Sl w w.heap.size 3 v0 m (eds l)) (h : Tp.fiP (Pt.uv l) u v = none) :
    Calls Tryz.prog 26 #[v0, .int .i64 u, .int .i64 v] w fun e w' => e = .returned (.tuple #[.int .i64 0, .bool false]) ∧ Below w.heap.size w w' := by
  have := nfind_any (u := u) (v := v) hs
  rw [h] at this; exact this
theorem nvertex_yes {v : Int} (h1 : 0 ≤ v) (h2 : v < 16777216) (w : World) : Calls Tryz.prog 99 #[.int .i64 v] w fun e w' => e = .returned (.bool true) ∧ w = w' := by
  go_enter Tryz.func99, Tryz.ntmps99
  go_wp2
  go_ret
  exact ⟨rfl, rfl⟩
theorem nof_ok {x y z : Int} (a1 : 0 ≤ x) (a8 : x < y) (h2 : y ≤ 2000) (hz : x * 16777216 + y = z) (w : World) : Calls Tryz.prog 77 #[.int .i64 x, .int .i64 y] w fun e w' => e = .returned (.tuple #[.int .u64 z, .int .i64 0]) ∧ w = w' := by
  have HZ := hid hz
  clear hz
  have a2 : x < 16777216 := by omega
  have a3 : 0 ≤ y := by omega
  have a4 : y < 16777216 := by omega
  have a5 : (x == y) = false := by simp; omega
  have a6 : x ≤ y := by omega
  have a7 : ¬ y ≤ x := by omega
  have a9 : ¬ y < x := by omega
  go_enter Tryz.func77, Tryz.ntmps77
  go_wp2_with fail
  refine (nvertex_yes a1 a2 _).mono ?_; rintro e w' ⟨rfl, rfl⟩
  go_wp2_with fail
  refine (nvertex_yes a3 a4 _).mono ?_; rintro e w' ⟨rfl, rfl⟩
  go_wp2
  go_ret2
  exact ⟨by rw [← HZ.out]; rfl, rfl⟩
set_option maxRecDepth 100000 in
set_option maxHeartbeats 8000000 in
theorem cfits_yes {n : Int} {v0 v1 : Value} {m k : Nat} {l : List (Int × Int × Int)} {p : List Int} {w : World} (hs : Sl w w.heap.size 3 v0 m (eds l)) (ht : TabR n l) (h1 : Sl w w.heap.size 1 v1 k (ints p)) (hp : ∀ x ∈ p, 0 ≤ x ∧ x < n) :
    Calls Tryz.prog 73 #[.int .i64 n, v0, v1] w fun e w' => e = .returned (.bool true) ∧ Below w.heap.size w w' := by
  have hl : p.length = k := by have := h1.len; rw [len_ints] at this; omega
  have HT := hid ht
  have HS := hid hs
  obtain ⟨A, c, rfl, hnc, hcm, hll, hx⟩ := h1
  have hm : k ≤ 9223372036854775807 := by unfold maxLen at hcm; omega
  have HX := hid hx
  have HL := hid hl
  have HP := hid hp
  clear hx hll hl hcm hnc hp ht hs
  go_enter Tryz.func73, Tryz.ntmps73
  go_wp2_with fail
  refine (tright_is HS.out true ⟨fun _ => rfl, fun _ => HT.out⟩).mono ?_; rintro e w2 ⟨rfl, b2⟩
  have HB2 := hid b2
  clear b2
  go_wp2_with fail
  go_loopw [15] (fun iv wr => ∃ i : Nat, i ≤ k ∧ iv = .int .i64 (i : Int) ∧ w2 = wr) (fun iv _ => k - (intOf iv).toNat)
  case atStart => exact ⟨0, Nat.zero_le _, rfl, by trivial⟩
  case round =>
    obtain ⟨i, hi, rfl, rfl⟩ := hrel
    by_cases hlt : i < k
    · have j0 : (i : Int) < (k : Int) := by omega
      have hil : i < p.length := by rw [HL.out]; exact hlt
      obtain ⟨b6, o6, rfl, hb6, hc6⟩ := HX.out (by omega)
      have p0 := ints_cell hc6 hil
      have q0 := (HB2.out.cell (p := ⟨b6, o6 + i, none⟩) hb6).trans p0
      have hr := HP.out (p.getD i 0) (by rw [List.getD_eq_getElem?_getD, List.getElem?_eq_getElem hil]; exact List.getElem_mem hil)
      generalize p.getD i 0 = x at q0 p0 hr
      obtain ⟨r1, r2⟩ := hr
      clear hc6 p0
      go_wp2_with fail
      go_roundw
      case rel => exact ⟨i + 1, by omega, by go_num, by trivial⟩
      case measure => simp [intOf]; omega
    · have j0 : ¬ (i : Int) < (k : Int) := by omega
      go_wp2
      go_ret
      exact ⟨rfl, HB2.out⟩
def bls (l : List Bool) : List Value := l.map .bool
theorem len_bls (l : List Bool) : (bls l).length = l.length := by simp [bls]
theorem bls_at (l : List Bool) (k : Nat) (h : k < l.length) : (bls l)[k]? = some (.bool (l.getD k false)) := by simp [bls, h, List.getD]
def unl (l : List (Int × Int × Int)) (bs : List Bool) : List (Int × Int × Int) := l.filter fun e => bs.getD e.1.toNat false != bs.getD e.2.1.toNat false
theorem unl_step {l : List (Int × Int × Int)} {bs : List Bool} {j : Nat} (h : j < l.length) (b1 b2 : Bool) (h1 : bs.getD l[j].1.toNat false = b1) (h2 : bs.getD l[j].2.1.toNat false = b2) : unl (l.take (j + 1)) bs = unl (l.take j) bs ++ (if (b1 != b2) = true then [l[j]] else []) := by
  unfold unl
  rw [List.take_succ_eq_append_getElem h, List.filter_append, List.filter_cons, h1, h2]
  rfl
set_option maxRecDepth 100000 in
set_option maxHeartbeats 8000000 in
theorem unlike_any {v0 v1 : Value} {m k : Nat} {l : List (Int × Int × Int)} {bs : List Bool} {w : World} (hs : Sl w w.heap.size 3 v0 m (eds l)) (h1 : Sl w w.heap.size 1 v1 k (bls bs)) (hin : ∀ e ∈ l, (0 ≤ e.1 ∧ e.1 < (k : Int)) ∧ (0 ≤ e.2.1 ∧ e.2.1 < (k : Int))) (hm : m ≤ 1000000) :
    Calls Tryz.prog 74 #[v0, v1] w (FrsPost w (unl l bs)) := by
  have hl : l.length = m := by have := hs.len; rw [len_eds] at this; omega
  have hl1 : bs.length = k := by have := h1.len; rw [len_bls] at this; omega
  obtain ⟨A, c, rfl, hnc, hcm, hll, hx⟩ := hs
  obtain ⟨A1, c1, rfl, hnc1, hcm1, hll1, hx1⟩ := h1
  have hk : k ≤ 9223372036854775807 := by unfold maxLen at hcm1; omega
  have HX := hid hx
  have HX1 := hid hx1
  have HL := hid hl
  have HL1 := hid hl1
  have HIN := hid hin
  clear hx hll hl hcm hnc hx1 hll1 hl1 hcm1 hnc1 hin
  go_enter Tryz.func74, Tryz.ntmps74
  go_wp2_with fail
  go_loopw [5, 10] (fun ov iv wr => ∃ (i q : Nat), i ≤ m ∧ iv = .int .i64 (i : Int) ∧ q ≤ i ∧ Hid ((unl (l.take i) bs).length = q) ∧ Hid (wr.ownsRow w.heap.size 35 3 ov q (eds (unl (l.take i) bs))) ∧ Hid (Below w.heap.size w wr)) (fun _ iv _ => m - (intOf iv).toNat)
  case atStart => exact ⟨0, 0, Nat.zero_le _, rfl, Nat.le_refl _, hid rfl, hid (World.ownsRow_nil _ _ _ _), hid (Below.refl _ _)⟩
  case round =>
    obtain ⟨i, q, hi, rfl, hqi, HQ, HO, HB⟩ := hrel
    by_cases hlt : i < m
    · have j0 : (i : Int) < (m : Int) := by omega
      have hil : i < l.length := by rw [HL.out]; exact hlt
      obtain ⟨b6, o6, rfl, hb6, hc6⟩ := HX.out (by omega)
      obtain ⟨p0, p1, p2⟩ := eds_cell hc6 hil
      have q0 := (HB.out.cell (p := ⟨b6, o6 + i * 3, none⟩) hb6).trans p0
      have q1 := (HB.out.cell (p := ⟨b6, o6 + i * 3 + 1, none⟩) hb6).trans p1
      have q2 := (HB.out.cell (p := ⟨b6, o6 + i * 3 + 2, none⟩) hb6).trans p2
      have HST := hid (fun b1 b2 h1 h2 => unl_step (bs := bs) hil b1 b2 h1 h2)
      obtain ⟨⟨e1, e2⟩, e3, e4⟩ := HIN.out l[i] (List.getElem_mem hil)
      obtain ⟨e, he⟩ : ∃ e, e = l[i] := ⟨_, rfl⟩
      rw [← he] at q0 q1 q2 HST e1 e2 e3 e4
      obtain ⟨x, y, t⟩ := e
      dsimp only at q0 q1 q2 e1 e2 e3 e4 HST
      obtain ⟨xn, rfl⟩ := Int.eq_ofNat_of_zero_le e1
      obtain ⟨yn, rfl⟩ := Int.eq_ofNat_of_zero_le e3
      obtain ⟨b7, o7, rfl, hb7, hc7⟩ := HX1.out (by omega)
      have m1 := hc7 xn _ (bls_at bs xn (by rw [HL1.out]; omega))
      have m2 := hc7 yn _ (bls_at bs yn (by rw [HL1.out]; omega))
      have r1 := cell_later (bel_new wr (.cells #[.int .i64 (xn : Int), .int .i64 (yn : Int), .int .i64 t] 35)) ((HB.out.cell (p := ⟨b7, o7 + xn, none⟩) hb7).trans m1)
      have r2 := cell_later (bel_new wr (.cells #[.int .i64 (xn : Int), .int .i64 (yn : Int), .int .i64 t] 35)) ((HB.out.cell (p := ⟨b7, o7 + yn, none⟩) hb7).trans m2)
      have HH := hid (HST.out (bs.getD xn false) (bs.getD yn false) (by rw [Int.toNat_natCast]) (by rw [Int.toNat_natCast]))
      generalize bs.getD xn false = b1 at HH r1 m1
      generalize bs.getD yn false = b2 at HH r2 m2
      clear he p0 p1 p2 hc6 hc7 HST m1 m2
      have HBN := hid (HB.out.alloc HB.out.size (.cells #[.int .i64 (xn : Int), .int .i64 (yn : Int), .int .i64 t] 35))
      have HO2 := hid (HO.out.alloc (.cells #[.int .i64 (xn : Int), .int .i64 (yn : Int), .int .i64 t] 35))
      have HH2 : ∀ n, Hid (((wr.alloc (.cells #[.int .i64 (xn : Int), .int .i64 (yn : Int), .int .i64 t] 35)).drewN n).heap.size = wr.heap.size + 1) := fun n => hid (by simp)
      have HZ := HBN.out.size
      have hby : (q + 1) * 24 ≤ 140737488355328 := by omega
      cases b1 <;> cases b2
      case false.false | true.true =>
        have HN : Hid (unl (l.take (i + 1)) bs = unl (l.take i) bs) := hid (by rw [HH.out]; simp)
        clear HH
        go_wp2_with fail
        go_quiet (fail)
        go_wp2_with fail
        go_roundw
        case rel => exact ⟨i + 1, q, by omega, by go_num, by omega, hid (by rw [HN.out]; exact HQ.out), hid (by rw [HN.out]; exact own_below HO2.out (qt_of _ _).bel), hid (HBN.out.trans ((qt_of _ _).below _))⟩
        case measure => simp [intOf]; omega
      case false.true | true.false =>
        have HN : Hid (unl (l.take (i + 1)) bs = unl (l.take i) bs ++ [((xn : Int), (yn : Int), t)]) := hid (by rw [HH.out]; simp)
        clear HH
        go_wp2_with fail
        go_quiet (fail)
        go_wp2_with (at_builtin; (refine wl_app1H rfl _ _ Tedg rfl (news := [.int .i64 (xn : Int), .int .i64 (yn : Int), .int .i64 t]) rfl (own_below HO2.out (qt_of _ _).bel) rfl (HH2 _).out rfl (eds_one [((xn : Int), (yn : Int), t)]) hby (Nat.le_trans HZ (Nat.le_of_eq (Qt.size (qt_of _ _)).symm)) ?_))
        intro v9 w9 o9 b9
        have O9 : Hid (w9.ownsRow w.heap.size 35 3 v9 (q + 1) (eds (unl (l.take (i + 1)) bs))) := hid (by rw [HN.out, ← eds_app]; exact o9)
        have HQ9 : Hid ((unl (l.take (i + 1)) bs).length = q + 1) := hid (by rw [HN.out, List.length_append, HQ.out]; rfl)
        have B9 := hid ((HBN.out.trans ((qt_of _ _).below _)).trans b9)
        clear o9 b9
        go_wp2_with fail
        go_roundw
        case rel => exact ⟨i + 1, q + 1, by omega, by go_num, by omega, HQ9, O9, B9⟩
        case measure => simp [intOf]; omega
    · have j0 : ¬ (i : Int) < (m : Int) := by omega
      obtain rfl : i = m := by omega
      have HF : Hid (unl (l.take i) bs = unl l bs) := hid (by rw [List.take_of_length_le (by rw [HL.out]; exact Nat.le_refl _)])
      go_wp2
      go_ret
      exact ⟨_, rfl, by have h1 := Sl.of_own HO.out; have h2 := HQ.out; rw [HF.out] at h1 h2; rw [h2]; exact h1, HB.out⟩
theorem Tbls : SlT 135 4 (.bool false) 1 1 := SlT.mk Tryz.underlying135 (by kernel_rfl) rfl (by decide) (by decide)
theorem run_make_bls (n : Nat) (h : n ≤ 1000000) (w : World) :
    (Instr.makeSlice 135 (.int .i64 (n : Int)) (.int .i64 (n : Int))).run Tryz.prog w = .ok (.slice (some ⟨w.heap.size, 0, none⟩) n n) (w.alloc (.cells (bls (List.replicate n false)).toArray 4)) := by
  obtain ⟨hu, ⟨i, hi, hz, hsz, hby⟩, hzs, h0, h0b⟩ := Tbls
  have hr := run_make (P := Tryz.prog) w 135 4 i (.bool false) hu hi hz .i64 .i64 n n (by omega) (by omega) (by rw [hby]; omega) (by omega)
  rw [hr, hsz]
  have e : madeCells (Value.bool false).cells ((n : Int).toNat * 1) = (bls (List.replicate n false)).toArray := by
    have := toList_madeCells_one (.bool false) n
    simp only [Int.toNat_natCast, Nat.mul_one, bls, List.map_replicate]
    rw [← this]
    rfl
  rw [e]
  simp
/-- The marks behind the first i things. -/
def mks (n : Nat) (p : List Int) : List Bool := (List.range n).map fun j : Nat => p.contains (j : Int)
theorem len_mks (n : Nat) (p : List Int) : (mks n p).length = n := by simp [mks]
theorem mks_nil (n : Nat) : mks n [] = List.replicate n false := by
  apply List.ext_getElem
  · simp [mks]
  · intro i h1 h2; simp [mks]
theorem mks_next {n : Nat} {p : List Int} {i : Nat} (hi : i < p.length) (x : Nat) (hx : p[i] = (x : Int)) : (bls (mks n (p.take i))).set x (.bool true) = bls (mks n (p.take (i + 1))) := by
  have : (bls (mks n (p.take i))).set x (.bool true) = bls ((mks n (p.take i)).set x true) := by simp [bls, List.map_set]
  rw [this]
  congr 1
  apply List.ext_getElem
  · simp [mks]
  · intro j h1 h2
    have hj : j < n := by simpa [mks] using h2
    rw [List.getElem_set]
    simp only [List.take_succ_eq_append_getElem hi, mks, List.getElem_map, List.getElem_range, List.contains_eq_mem, List.mem_append, List.mem_singleton, hx]
    by_cases e : x = j
    · subst e; simp
    · rw [if_neg e]
      have : ¬ ((j : Int) = (x : Int)) := by omega
      simp [this]
theorem unl_cut {n : Nat} {p : List Int} {l : List (Int × Int × Int)} (hin : ∀ e ∈ l, (0 ≤ e.1 ∧ e.1 < (n : Int)) ∧ (0 ≤ e.2.1 ∧ e.2.1 < (n : Int))) : unl l (mks n p) = Tp.cutL l p := by
  unfold unl Tp.cutL Tp.crB
  refine List.filter_congr fun e he => ?_
  have key : ∀ x : Int, 0 ≤ x → x < n → (mks n p).getD x.toNat false = p.contains x := by
    intro x h0 h1
    rw [List.getD_eq_getElem?_getD, List.getElem?_eq_getElem (by rw [len_mks]; omega)]
    simp only [mks, List.getElem_map, List.getElem_range, Option.getD_some]
    rw [show ((x.toNat : Nat) : Int) = x by omega]
  obtain ⟨⟨h1, h2⟩, h3, h4⟩ := hin e he
  rw [key _ h1 h2, key _ h3 h4]
theorem tabr_in {n : Nat} {l : List (Int × Int × Int)} (h : TabR n l) : ∀ e ∈ l, (0 ≤ e.1 ∧ e.1 < (n : Int)) ∧ (0 ≤ e.2.1 ∧ e.2.1 < (n : Int)) := by
  intro e he
  obtain ⟨j, hj, rfl⟩ := List.mem_iff_getElem.1 he
  have := (h.2 j hj hj).1
  unfold EdOk at this; omega
def CutPost (w : World) (l : List (Int × Int × Int)) (e : Ending) (w' : World) : Prop := ∃ v, e = .returned (.tuple #[v, .int .i64 0]) ∧ Sl w' w'.heap.size 3 v l.length (eds l) ∧ Below w.heap.size w w'
set_option maxRecDepth 100000 in
set_option maxHeartbeats 8000000 in
theorem cut_ok {n : Nat} {v0 v1 : Value} {m k : Nat} {l : List (Int × Int × Int)} {p : List Int} {w : World} (hs : Sl w w.heap.size 3 v0 m (eds l)) (ht : TabR n l) (h1 : Sl w w.heap.size 1 v1 k (ints p)) (hp : ∀ x ∈ p, 0 ≤ x ∧ x < (n : Int)) (hm : m ≤ 1000000) :
    Calls Tryz.prog 47 #[.int .i64 (n : Int), v0, v1] w (CutPost w (Tp.cutL l p)) := by
  have hl : p.length = k := by have := h1.len; rw [len_ints] at this; omega
  have hn : n ≤ 1000000 := by have := ht.1; omega
  have HT := hid ht
  have HS := hid hs
  have HS1 := hid h1
  have HP := hid hp
  have HM := hid hm
  obtain ⟨A, c, rfl, hnc, hcm, hll, hx⟩ := h1
  have hk : k ≤ 9223372036854775807 := by unfold maxLen at hcm; omega
  have HX := hid hx
  have HL := hid hl
  have hmk := run_make_bls n hn
  clear hx hll hl hcm hnc hp ht hs hm
  go_enter Tryz.func47, Tryz.ntmps47
  go_wp2_with fail
  refine (cfits_yes HS.out HT.out HS1.out HP.out).mono ?_; rintro e w2 ⟨rfl, b2⟩
  have HB2 := hid b2
  have HS2 := hid (HS.out.call b2)
  clear b2
  go_wp2_with fail
  obtain ⟨K, hK⟩ : ∃ K, K = w2.heap.size := ⟨_, rfl⟩
  rw [← hK]
  have HK := hid hK
  clear hK hmk
  go_loopw [20] (fun iv wr => ∃ i : Nat, i ≤ k ∧ iv = .int .i64 (i : Int) ∧ Hid (Blk wr K 4 (bls (mks n (p.take i)))) ∧ Hid (Below w2.heap.size w2 wr)) (fun iv _ => k - (intOf iv).toNat)
  case atStart => exact ⟨0, Nat.zero_le _, rfl, hid (by have := Blk.new w2 4 (bls (List.replicate n false)); rw [← HK.out] at this; rw [List.take_zero, mks_nil]; exact this), hid (bel_new _ _)⟩
  case round =>
    obtain ⟨i, hi, rfl, HD, HB⟩ := hrel
    by_cases hlt : i < k
    · have j0 : (i : Int) < (k : Int) := by omega
      have hil : i < p.length := by rw [HL.out]; exact hlt
      obtain ⟨b6, o6, rfl, hb6, hc6⟩ := HX.out (by omega)
      have p0 := ints_cell hc6 hil
      have hb7 := Nat.lt_of_lt_of_le hb6 HB2.out.size
      have q0 := (HB.out.cell (p := ⟨b6, o6 + i, none⟩) hb7).trans ((HB2.out.cell (p := ⟨b6, o6 + i, none⟩) hb6).trans p0)
      have hg : p.getD i 0 = p[i] := by rw [List.getD_eq_getElem?_getD, List.getElem?_eq_getElem hil]; rfl
      have hr := HP.out p[i] (List.getElem_mem hil)
      rw [hg] at q0
      have HNX := hid (fun x hx => mks_next (n := n) hil x hx)
      obtain ⟨x, hx⟩ : ∃ x, x = p[i] := ⟨_, rfl⟩
      rw [← hx] at q0 hr HNX
      obtain ⟨r1, r2⟩ := hr
      obtain ⟨xn, rfl⟩ := Int.eq_ofNat_of_zero_le r1
      have HDN : Hid (Blk (wr.setCell ⟨K, xn, none⟩ (.bool true)) K 4 (bls (mks n (p.take (i + 1))))) := hid (by
        have := HD.out.put xn (.bool true)
        rw [HNX.out xn rfl] at this; exact this)
      have HBN : Hid (Below w2.heap.size w2 (wr.setCell ⟨K, xn, none⟩ (.bool true))) := hid (HB.out.setCell (by rw [HK.out]; exact Nat.le_refl _) _)
      have hfz := HD.out.frozen xn
      have hcell : wr.cell? ⟨K, xn, none⟩ = some (.bool ((mks n (p.take i)).getD xn false)) := by rw [HD.out.cell]; exact bls_at _ _ (by rw [len_mks]; omega)
      clear hc6 p0 hg hx HNX
      go_wp2_with fail
      go_roundw
      case rel => exact ⟨i + 1, by omega, by go_num, HDN, HBN⟩
      case measure => simp [intOf]; omega
    · have j0 : ¬ (i : Int) < (k : Int) := by omega
      obtain rfl : i = k := by omega
      have HE : Hid (p.take i = p) := hid (List.take_of_length_le (by rw [HL.out]; exact Nat.le_refl _))
      have HS3 := hid (HS2.out.call HB.out)
      have HMK : Hid (Sl wr wr.heap.size 1 (.slice (some ⟨K, 0, none⟩) n n) n (bls (mks n p))) := hid (by
        have := HD.out.sl (B := wr.heap.size) (sz := 1) (n := n) (c := n) HD.out.lt (Nat.le_refl _) (by unfold maxLen; omega) (by rw [len_bls, len_mks]; omega)
        rw [HE.out] at this; exact this)
      have HFF := hid (unl_cut (p := p) (tabr_in HT.out))
      go_wp2_with fail
      refine (unlike_any HS3.out HMK.out (tabr_in HT.out) HM.out).mono ?_; rintro e w4 ⟨v4, rfl, s4, b4⟩
      have HS4 := hid s4
      have HB4 := hid (Bl.call (HB2.out.trans (HB.out.mono HB2.out.size)) b4)
      clear s4 b4
      go_wp2
      go_ret2
      exact ⟨v4, rfl, by rw [← HFF.out]; exact HS4.out, HB4.out⟩
/-- The names of these edges. -/
def nmsL (l : List (Int × Int × Int)) : List Nat := (Pt.uv l).map Tp.nmP
theorem nmsL_next {l : List (Int × Int × Int)} {i : Nat} (h : i < l.length) : nmsL (l.take (i + 1)) = nmsL (l.take i) ++ [Tp.nmP (l[i].1, l[i].2.1)] := by
  unfold nmsL Pt.uv
  rw [List.take_succ_eq_append_getElem h, List.map_append, List.map_append]; rfl
theorem len_nmsL (l : List (Int × Int × Int)) : (nmsL l).length = l.length := by simp [nmsL, Pt.uv]
def NmsPost (l : List (Int × Int × Int)) (w : World) (e : Ending) (w' : World) : Prop := ∃ v, e = .returned v ∧ Sl w' w'.heap.size 1 v l.length (us (nmsL l)) ∧ Below w.heap.size w w'
set_option maxRecDepth 100000 in
set_option maxHeartbeats 8000000 in
theorem cnames_any {v0 : Value} {m : Nat} {l : List (Int × Int × Int)} {w : World} (hs : Sl w w.heap.size 3 v0 m (eds l)) (hin : ∀ e ∈ l, 0 ≤ e.1 ∧ e.1 < e.2.1 ∧ e.2.1 ≤ 2000) (hm : m ≤ 1000000) :
    Calls Tryz.prog 52 #[v0] w (NmsPost l w) := by
  have hl : l.length = m := by have := hs.len; rw [len_eds] at this; omega
  obtain ⟨A, c, rfl, hnc, hcm, hll, hx⟩ := hs
  have HX := hid hx
  have HL := hid hl
  have HIN := hid hin
  clear hx hll hl hcm hnc hin
  go_enter Tryz.func52, Tryz.ntmps52
  go_wp2_with fail
  go_loopw [3, 10] (fun ov iv wr => ∃ i : Nat, i ≤ m ∧ iv = .int .i64 (i : Int) ∧ Hid (wr.ownsRow w.heap.size 40 1 ov i (us (nmsL (l.take i)))) ∧ Hid (Below w.heap.size w wr)) (fun _ iv _ => m - (intOf iv).toNat)
  case atStart => exact ⟨0, Nat.zero_le _, rfl, hid (World.ownsRow_nil _ _ _ _), hid (Below.refl _ _)⟩
  case round =>
    obtain ⟨i, hi, rfl, HO, HB⟩ := hrel
    by_cases hlt : i < m
    · have j0 : (i : Int) < (m : Int) := by omega
      have hil : i < l.length := by rw [HL.out]; exact hlt
      obtain ⟨b6, o6, rfl, hb6, hc6⟩ := HX.out (by omega)
      obtain ⟨p0, p1, p2⟩ := eds_cell hc6 hil
      have q0 := (HB.out.cell (p := ⟨b6, o6 + i * 3, none⟩) hb6).trans p0
      have q1 := (HB.out.cell (p := ⟨b6, o6 + i * 3 + 1, none⟩) hb6).trans p1
      have q2 := (HB.out.cell (p := ⟨b6, o6 + i * 3 + 2, none⟩) hb6).trans p2
      have HNX := hid (nmsL_next hil)
      obtain ⟨e1, e2, e3⟩ := HIN.out l[i] (List.getElem_mem hil)
      obtain ⟨e, he⟩ : ∃ e, e = l[i] := ⟨_, rfl⟩
      rw [← he] at q0 q1 q2 HNX e1 e2 e3
      obtain ⟨x, y, t⟩ := e
      dsimp only at q0 q1 q2 e1 e2 e3 HNX
      clear he p0 p1 p2 hc6
      have HZ0 : Hid (x * 16777216 + y = ((Tp.nmP (x, y) : Nat) : Int)) := hid (by unfold Tp.nmP; simp; omega)
      have HBN := hid (HB.out.alloc HB.out.size (.cells #[.int .i64 x, .int .i64 y, .int .i64 t] 35))
      have HO2 := hid (HO.out.alloc (.cells #[.int .i64 x, .int .i64 y, .int .i64 t] 35))
      have HH : Hid ((wr.alloc (.cells #[.int .i64 x, .int .i64 y, .int .i64 t] 35)).heap.size = wr.heap.size + 1) := hid (by simp)
      have HZ := hid HBN.out.size
      have hby : (i + 1) * 8 ≤ 140737488355328 := by omega
      go_wp2_with fail
      refine (nof_ok e1 e2 e3 HZ0.out _).mono ?_; rintro e w' ⟨rfl, rfl⟩
      generalize Tp.nmP (x, y) = nz at HNX
      go_wp2_with (at_builtin; (refine wl_app1H rfl _ _ Tus rfl (news := [.int .u64 (nz : Int)]) rfl HO2.out rfl HH.out rfl (us_one [nz]) hby HZ.out ?_))
      intro v9 w9 o9 b9
      have O9 : Hid (w9.ownsRow w.heap.size 40 1 v9 (i + 1) (us (nmsL (l.take (i + 1))))) := hid (by rw [HNX.out, ← us_app]; exact o9)
      have B9 := hid (HBN.out.trans b9)
      clear o9 b9
      go_wp2_with fail
      go_roundw
      case rel => exact ⟨i + 1, by omega, by go_num, O9, B9⟩
      case measure => simp [intOf]; omega
    · have j0 : ¬ (i : Int) < (m : Int) := by omega
      obtain rfl : i = m := by omega
      have HF : Hid (l.take i = l) := hid (List.take_of_length_le (by rw [HL.out]; exact Nat.le_refl _))
      go_wp2
      go_ret
      exact ⟨_, rfl, by have h1 := Sl.of_own HO.out; rw [HF.out] at h1; rw [HL.out]; exact h1, HB.out⟩
/-- The cells of hashes. -/
def hcz (l : List (Int × Int)) : List Value := l.flatMap fun h => [.int .u64 h.1, .int .u64 h.2]
theorem len_hcz (l : List (Int × Int)) : (hcz l).length = l.length * 2 := by
  induction l with
  | nil => rfl
  | cons e l ih => simp [hcz] at ih ⊢; omega
theorem hcz_at (l : List (Int × Int)) (k : Nat) (h : k < l.length) : (hcz l)[k * 2]? = some (.int .u64 l[k].1) ∧ (hcz l)[k * 2 + 1]? = some (.int .u64 l[k].2) := by
  induction l generalizing k with
  | nil => simp at h
  | cons e l ih =>
    cases k with
    | zero => simp [hcz]
    | succ k =>
      have := ih k (by simpa using h)
      simp only [hcz, List.flatMap_cons, List.getElem_cons_succ] at this ⊢
      rw [show (k + 1) * 2 = (k * 2) + 2 by omega]
      exact this
theorem hcz_cell {w : World} {b o : Nat} {l : List (Int × Int)} (h : ∀ j u, (hcz l)[j]? = some u → w.cell? ⟨b, o + j, none⟩ = some u) {k : Nat} (hk : k < l.length) :
    w.cell? ⟨b, o + k * 2, none⟩ = some (.int .u64 l[k].1) ∧ w.cell? ⟨b, o + k * 2 + 1, none⟩ = some (.int .u64 l[k].2) := by
  have e := hcz_at l k hk
  exact ⟨h _ _ e.1, by rw [Nat.add_assoc]; exact h _ _ e.2⟩
def GSz (N L R : Int) : Prop := 1 ≤ N ∧ N ≤ 1024 ∧ 1 ≤ L ∧ L ≤ 16 ∧ 1 ≤ R ∧ R ≤ 8
def HsOk (hs : List (Int × Int)) (i : Nat) : Prop := ∀ j, (h : j < hs.length) → j < i → hs[j].1 < 2305843009213693951 ∧ hs[j].2 < 2305843009213693951
def TrOk (L : Int) (es : List (Int × Int × Int)) (i : Nat) : Prop := ∀ j, (h : j < es.length) → j < i → es[j].2.2 ≤ L
/-- What may be a graph. -/
def GR (N L R : Int) (hs : List (Int × Int)) (es : List (Int × Int × Int)) : Prop :=
  GSz N L R ∧ (hs.length : Int) = L * R ∧ HsOk hs hs.length ∧ TabR N es ∧ TrOk L es es.length ∧ Pt.Fst N.toNat (Pt.uv (frs L es))
theorem not_true {p : Prop} {b : Bool} (h : p ↔ b = true) (hn : ¬ p) : b = false := by
  cases b with
  | false => rfl
  | true => exact absurd (h.2 rfl) hn
theorem hs_next {hs : List (Int × Int)} {i : Nat} (hp : HsOk hs i) (h1 : ∀ h : i < hs.length, hs[i].1 < 2305843009213693951 ∧ hs[i].2 < 2305843009213693951) : HsOk hs (i + 1) := by
  intro j h hj
  rcases Nat.lt_or_ge j i with h3 | h3
  · exact hp j h h3
  · have : j = i := by omega
    subst this; exact h1 h
theorem tr_next {L : Int} {es : List (Int × Int × Int)} {i : Nat} (hp : TrOk L es i) (h1 : ∀ h : i < es.length, es[i].2.2 ≤ L) : TrOk L es (i + 1) := by
  intro j h hj
  rcases Nat.lt_or_ge j i with h3 | h3
  · exact hp j h h3
  · have : j = i := by omega
    subst this; exact h1 h
/-- A graph as a value. -/
abbrev grV (N L R : Int) (vh ve : Value) : Value := .agg #[.int .i64 N, .int .i64 L, .int .i64 R, vh, ve]
set_option maxRecDepth 100000 in
set_option maxHeartbeats 16000000 in
theorem gr_any {N L R : Int} {vh ve : Value} {nh ne : Nat} {hs : List (Int × Int)} {es : List (Int × Int × Int)} {w : World} (h1 : Sl w w.heap.size 2 vh nh (hcz hs)) (h2 : Sl w w.heap.size 3 ve ne (eds es)) (hn : ne ≤ 1000000)
    (b : Bool) (hb : GR N L R hs es ↔ b = true) :
    Calls Tryz.prog 19 #[grV N L R vh ve] w fun e w' => e = .returned (.bool b) ∧ Below w.heap.size w w' := by
  have hl1 : hs.length = nh := by have := h1.len; rw [len_hcz] at this; omega
  have hl2 : es.length = ne := by have := h2.len; rw [len_eds] at this; omega
  have S1 := hid h1
  have S2 := hid h2
  have HB := hid hb
  have HL1 := hid hl1
  have HL2 := hid hl2
  obtain ⟨A1, c1, rfl, hnc1, hcm1, -, hx1⟩ := h1
  obtain ⟨A2, c2, rfl, hnc2, hcm2, -, hx2⟩ := h2
  have hm1 : nh ≤ 9223372036854775807 := by unfold maxLen at hcm1; omega
  have hm2 : ne ≤ 9223372036854775807 := by omega
  have HX1 := hid hx1
  have HX2 := hid hx2
  clear hx1 hx2 hl1 hl2 hb hcm1 hcm2 hnc1 hnc2
  unfold grV
  have HBB : Hid (Below w.heap.size w ((w.alloc (.cells #[.int .i64 N, .int .i64 L, .int .i64 R, .slice A1 nh c1, .slice A2 ne c2] 28)).alloc (.cells #[.int .i64 N, .int .i64 L, .int .i64 R] 23))) := hid (Bl.new (bel_new _ _) _)
  by_cases g0 : 1 ≤ N
  case neg =>
    have HF : Hid (b = false) := hid (not_true HB.out (fun h => by have h2 := h.1; unfold GSz at h2; omega))
    go_enter Tryz.func19, Tryz.ntmps19
    go_wp2
    go_ret
    exact ⟨by rw [HF.out]; rfl, HBB.out⟩
  case pos =>
  by_cases g1 : N ≤ 1024
  case neg =>
    have HF : Hid (b = false) := hid (not_true HB.out (fun h => by have h2 := h.1; unfold GSz at h2; omega))
    go_enter Tryz.func19, Tryz.ntmps19
    go_wp2
    go_ret
    exact ⟨by rw [HF.out]; rfl, HBB.out⟩
  case pos =>
  by_cases g2 : 1 ≤ L
  case neg =>
    have HF : Hid (b = false) := hid (not_true HB.out (fun h => by have h2 := h.1; unfold GSz at h2; omega))
    go_enter Tryz.func19, Tryz.ntmps19
    go_wp2
    go_ret
    exact ⟨by rw [HF.out]; rfl, HBB.out⟩
  case pos =>
  by_cases g3 : L ≤ 16
  case neg =>
    have HF : Hid (b = false) := hid (not_true HB.out (fun h => by have h2 := h.1; unfold GSz at h2; omega))
    go_enter Tryz.func19, Tryz.ntmps19
    go_wp2
    go_ret
    exact ⟨by rw [HF.out]; rfl, HBB.out⟩
  case pos =>
  by_cases g4 : 1 ≤ R
  case neg =>
    have HF : Hid (b = false) := hid (not_true HB.out (fun h => by have h2 := h.1; unfold GSz at h2; omega))
    go_enter Tryz.func19, Tryz.ntmps19
    go_wp2
    go_ret
    exact ⟨by rw [HF.out]; rfl, HBB.out⟩
  case pos =>
  by_cases g5 : R ≤ 8
  case neg =>
    have HF : Hid (b = false) := hid (not_true HB.out (fun h => by have h2 := h.1; unfold GSz at h2; omega))
    go_enter Tryz.func19, Tryz.ntmps19
    go_wp2
    go_ret
    exact ⟨by rw [HF.out]; rfl, HBB.out⟩
  case pos =>
  have HSZ : Hid (GSz N L R) := hid ⟨g0, g1, g2, g3, g4, g5⟩
  obtain ⟨lr, hlr⟩ : ∃ lr, L * R = lr := ⟨_, rfl⟩
  have hlr1 : lr ≤ 128 := by rw [← hlr]; exact Int.le_trans (Int.mul_le_mul g3 g5 (by omega) (by omega)) (by decide)
  have hlr0 : 0 ≤ lr := by rw [← hlr]; exact Int.mul_nonneg (by omega) (by omega)
  have HLR := hid hlr
  by_cases k1 : (nh : Int) = lr
  case neg =>
    have k2 : ((nh : Int) != lr) = true := by simp [k1]
    have HF : Hid (b = false) := hid (not_true HB.out (fun h => k1 (by rw [← HLR.out, ← h.2.1, HL1.out])))
    clear k1
    go_enter Tryz.func19, Tryz.ntmps19
    go_wp2
    go_ret
    exact ⟨by rw [HF.out]; rfl, HBB.out⟩
  case pos =>
  have k2 : ((nh : Int) != lr) = false := by simp [k1]
  have HLL : Hid ((hs.length : Int) = L * R) := hid (by rw [HL1.out, HLR.out, k1])
  clear k1
  go_enter Tryz.func19, Tryz.ntmps19
  go_wp2_with fail
  obtain ⟨KG, hKG⟩ : ∃ K, K = w.heap.size := ⟨_, rfl⟩
  obtain ⟨w2, hw2⟩ : ∃ W, W = ((w.alloc (.cells #[.int .i64 N, .int .i64 L, .int .i64 R, .slice A1 nh c1, .slice A2 ne c2] 28)).alloc (.cells #[.int .i64 N, .int .i64 L, .int .i64 R] 23)) := ⟨_, rfl⟩
  have HB2 : Hid (Below w.heap.size w w2) := hid (by rw [hw2]; exact HBB.out)
  have DG : Hid (Blk w2 KG 28 [.int .i64 N, .int .i64 L, .int .i64 R, .slice A1 nh c1, .slice A2 ne c2]) := hid (by rw [hw2, hKG]; exact (Blk.new _ _ _).alloc _)
  have DC : Hid (Blk w2 (KG + 1) 23 [.int .i64 N, .int .i64 L, .int .i64 R]) := hid (by rw [hw2, hKG]; have := Blk.new (w.alloc (.cells #[.int .i64 N, .int .i64 L, .int .i64 R, .slice A1 nh c1, .slice A2 ne c2] 28)) 23 [.int .i64 N, .int .i64 L, .int .i64 R]; simpa using this)
  rw [← hKG, ← hw2]
  clear hKG hw2 HBB k2 hlr
  go_loopw [50] (fun iv wr => ∃ i : Nat, i ≤ nh ∧ iv = .int .i64 (i : Int) ∧ Hid (HsOk hs i) ∧ Hid (Below w2.heap.size w2 wr)) (fun iv _ => nh - (intOf iv).toNat)
  case atStart => exact ⟨0, Nat.zero_le _, rfl, hid (fun j _ h => absurd h (Nat.not_lt_zero _)), hid (Below.refl _ _)⟩
  case round =>
    obtain ⟨i, hi, rfl, HP, HBr⟩ := hrel
    obtain ⟨w3, rfl⟩ : ∃ x, x = wr := ⟨wr, rfl⟩
    by_cases hlt : i < nh
    case pos =>
      have j0 : (i : Int) < (nh : Int) := by omega
      have hil : i < hs.length := by rw [HL1.out]; exact hlt
      obtain ⟨b6, o6, rfl, hb6, hc6⟩ := HX1.out (by omega)
      obtain ⟨p0, p1⟩ := hcz_cell hc6 hil
      have hb7 := Nat.lt_of_lt_of_le hb6 HB2.out.size
      have q0 := (HBr.out.cell (p := ⟨b6, o6 + i * 2, none⟩) hb7).trans ((HB2.out.cell (p := ⟨b6, o6 + i * 2, none⟩) hb6).trans p0)
      have q1 := (HBr.out.cell (p := ⟨b6, o6 + i * 2 + 1, none⟩) hb7).trans ((HB2.out.cell (p := ⟨b6, o6 + i * 2 + 1, none⟩) hb6).trans p1)
      have HNX := hid (fun h : hs[i].1 < 2305843009213693951 ∧ hs[i].2 < 2305843009213693951 => hs_next HP.out (fun _ => h))
      have HNO := hid (fun h : ¬ (hs[i].1 < 2305843009213693951 ∧ hs[i].2 < 2305843009213693951) => not_true HB.out (fun g => h (g.2.2.1 i hil hil)))
      obtain ⟨e, he⟩ : ∃ e, e = hs[i] := ⟨_, rfl⟩
      rw [← he] at q0 q1 HNX HNO
      obtain ⟨x, y⟩ := e
      dsimp only at q0 q1 HNX HNO
      clear he p0 p1 hc6 hb7 hil
      have HBN := hid (Bl.new HBr.out (.cells #[.int .u64 x, .int .u64 y] 42))
      by_cases k1 : x < 2305843009213693951
      case neg =>
        have HF := hid (HNO.out (fun h => k1 h.1))
        have k3 : (2305843009213693951 : Int) ≤ x := by omega
        clear k1 HNO HNX
        go_wp2
        go_ret
        exact ⟨by rw [HF.out]; rfl, HB2.out.trans (HBN.out.mono HB2.out.size)⟩
      case pos =>
      by_cases k2 : y < 2305843009213693951
      case neg =>
        have HF := hid (HNO.out (fun h => k2 h.2))
        have k3 : (2305843009213693951 : Int) ≤ y := by omega
        clear k2 HNO HNX
        go_wp2
        go_ret
        exact ⟨by rw [HF.out]; rfl, HB2.out.trans (HBN.out.mono HB2.out.size)⟩
      case pos =>
        have HN := hid (HNX.out ⟨k1, k2⟩)
        have k3 : ¬ (2305843009213693951 : Int) ≤ x := by omega
        have k4 : ¬ (2305843009213693951 : Int) ≤ y := by omega
        clear HNO HNX k1 k2
        go_wp2_with fail
        go_roundw
        case rel => exact ⟨i + 1, by omega, by go_num, HN, HBN⟩
        case measure => simp [intOf]; omega
    case neg =>
      obtain rfl : i = nh := by omega
      have j0 : ¬ (i : Int) < (i : Int) := by omega
      have HP1 : Hid (HsOk hs hs.length) := hid (by rw [HL1.out]; exact HP.out)
      have S2r := hid ((S2.out.call HB2.out).call HBr.out)
      have DG3 := hid (DG.out.below HBr.out DG.out.lt)
      have DC3 := hid (DC.out.below HBr.out DC.out.lt)
      have n0 := DC3.out.cell 0
      have n4 := DG3.out.cell 4
      by_cases ht : TabR N es
      case neg =>
        have HF : Hid (b = false) := hid (not_true HB.out (fun h => ht h.2.2.2.1))
        have HT : Hid (TabR N es ↔ false = true) := hid (by simp only [ht]; simp)
        clear ht
        go_wp2_with fail
        refine (tright_is S2r.out false HT.out).mono ?_; rintro e w4 ⟨rfl, b4⟩
        have HB4 := hid (Bl.call (HB2.out.trans (HBr.out.mono HB2.out.size)) b4)
        clear b4 n0 n4
        go_wp2
        go_ret
        exact ⟨by rw [HF.out]; rfl, HB4.out⟩
      case pos =>
        have HT := hid ht
        clear ht
        go_wp2_with fail
        refine (tright_is S2r.out true ⟨fun _ => rfl, fun _ => HT.out⟩).mono ?_; rintro e w4 ⟨rfl, b4⟩
        have HB4 := hid (Bl.call (HB2.out.trans (HBr.out.mono HB2.out.size)) b4)
        have DG4 := hid (DG3.out.below b4 DG3.out.lt)
        have DC4 := hid (DC3.out.below b4 DC3.out.lt)
        have S24 := hid (S2r.out.call b4)
        clear b4 n0 n4
        have n4 := DG4.out.cell 4
        go_wp2_with fail
        go_loopw [72] (fun iv wr => ∃ i : Nat, i ≤ ne ∧ iv = .int .i64 (i : Int) ∧ Hid (TrOk L es i) ∧ Hid (Below w4.heap.size w4 wr)) (fun iv _ => ne - (intOf iv).toNat)
        case atStart => exact ⟨0, Nat.zero_le _, rfl, hid (fun j _ h => absurd h (Nat.not_lt_zero _)), hid (Below.refl _ _)⟩
        case round =>
          clear n4
          obtain ⟨q, hq, rfl, HQ, HBq⟩ := hrel
          have DG5 := hid (DG4.out.below HBq.out DG4.out.lt)
          have DC5 := hid (DC4.out.below HBq.out DC4.out.lt)
          have S25 := hid (S24.out.call HBq.out)
          have HB5 := hid (HB4.out.trans (HBq.out.mono HB4.out.size))
          by_cases hqt : q < ne
          case pos =>
            have j0 : (q : Int) < (ne : Int) := by omega
            have hil : q < es.length := by rw [HL2.out]; exact hqt
            obtain ⟨b6, o6, rfl, hb6, hc6⟩ := HX2.out (by omega)
            obtain ⟨p0, p1, p2⟩ := eds_cell hc6 hil
            have q0 := (HB5.out.cell (p := ⟨b6, o6 + q * 3, none⟩) hb6).trans p0
            have q1 := (HB5.out.cell (p := ⟨b6, o6 + q * 3 + 1, none⟩) hb6).trans p1
            have q2 := (HB5.out.cell (p := ⟨b6, o6 + q * 3 + 2, none⟩) hb6).trans p2
            have HNX := hid (fun h : es[q].2.2 ≤ L => tr_next HQ.out (fun _ => h))
            have HNO := hid (fun h : ¬ es[q].2.2 ≤ L => not_true HB.out (fun g => h (g.2.2.2.2.1 q hil hil)))
            obtain ⟨e, he⟩ : ∃ e, e = es[q] := ⟨_, rfl⟩
            rw [← he] at q0 q1 q2 HNX HNO
            obtain ⟨x, y, t⟩ := e
            dsimp only at q0 q1 q2 HNX HNO
            clear he p0 p1 p2 hc6 hil
            have HBN := hid (Bl.new HB5.out (.cells #[.int .i64 x, .int .i64 y, .int .i64 t] 35))
            have HBM := hid (HBq.out.alloc HBq.out.size (.cells #[.int .i64 x, .int .i64 y, .int .i64 t] 35))
            have DC6 := hid (DC5.out.alloc (.cells #[.int .i64 x, .int .i64 y, .int .i64 t] 35))
            have m1 := DC6.out.cell 1
            by_cases k1 : t ≤ L
            case neg =>
              have HF := hid (HNO.out k1)
              have k3 : L < t := by omega
              clear k1 HNO HNX
              go_wp2
              go_ret
              exact ⟨by rw [HF.out]; rfl, HBN.out⟩
            case pos =>
              have HN := hid (HNX.out k1)
              have k3 : ¬ L < t := by omega
              clear HNO HNX k1
              go_wp2_with fail
              go_roundw
              case rel => exact ⟨q + 1, by omega, by go_num, HN, HBM⟩
              case measure => simp [intOf]; omega
          case neg =>
            obtain rfl : q = ne := by omega
            have j0 : ¬ (q : Int) < (q : Int) := by omega
            have HQ1 : Hid (TrOk L es es.length) := hid (by rw [HL2.out]; exact HQ.out)
            obtain ⟨n, hnn⟩ := Int.eq_ofNat_of_zero_le (show 0 ≤ N by omega)
            subst hnn
            have hn2 : n ≤ 1024 := by omega
            have HN2 := hid hn2
            have m0 := DC5.out.cell 0
            have m1 := DC5.out.cell 1
            have m4 := DG5.out.cell 4
            by_cases hf : Pt.Fst n (Pt.uv (frs L es))
            case pos =>
              have HFF := hid hf
              have HF : Hid (b = true) := hid (HB.out.1 ⟨HSZ.out, HLL.out, HP1.out, HT.out, HQ1.out, by simpa using hf⟩)
              clear hf
              go_wp2_with fail
              go_region_held3 (fun w' => w'.cell? ⟨KG + 1, 0, none⟩ = some (.int .i64 (n : Int)) ∧ w'.cell? ⟨KG + 1, 1, none⟩ = some (.int .i64 L) ∧ w'.cell? ⟨KG, 4, none⟩ = some (.slice A2 q c2))
                (first | go_keep | (go_split_ands; and_intros <;> (first | (refine cell_later (by assumption) ?_; first | assumption | (rw [Qt.cell (qt_of _ _)]; assumption) | (rw [Qt.cell (qt_drew _)]; assumption)) | (refine cell_later (bel_new _ _) ?_; assumption))) | (refine cell_later (by assumption) ?_; first | assumption | (rw [Qt.cell (qt_of _ _)]; assumption) | (rw [Qt.cell (qt_drew _)]; assumption)) | (refine cell_later (bel_new _ _) ?_; assumption))
                (first | (go_at_call 45; (with_reducible refine (tforest_any (n := (n : Int)) (k := L) (by repeat (first | exact S25.out | refine Sl.new ?_ _ | refine Sl.cqt ?_ (qt_drew _) | refine Sl.cqt ?_ (qt_of _ _) | refine Sl.call ?_ (by assumption) | refine Sl.cqt ?_ (by assumption))) HT.out hn).mono ?_); rintro e w6 ⟨v6, rfl, s6, b6⟩) | (go_at_call 44; (with_reducible refine (gright_yes HN2.out s6 HFF.out).mono ?_); rintro e w7 ⟨rfl, b7⟩))
              all_goals
                go_wp2
                go_ret
                exact ⟨by rw [HF.out]; rfl, (by repeat (first | exact HB5.out | refine Bl.new ?_ _ | refine Bl.call ?_ (by assumption) | refine Bl.qt ?_ (by assumption) | refine Bl.qt ?_ (qt_drew _) | refine Bl.qt ?_ (qt_of _ _)))⟩
            case neg =>
              have HFF := hid hf
              have HF : Hid (b = false) := hid (not_true HB.out (fun h => hf (by have := h.2.2.2.2.2; simpa using this)))
              clear hf
              go_wp2_with fail
              go_region_held3 (fun w' => w'.cell? ⟨KG + 1, 0, none⟩ = some (.int .i64 (n : Int)) ∧ w'.cell? ⟨KG + 1, 1, none⟩ = some (.int .i64 L) ∧ w'.cell? ⟨KG, 4, none⟩ = some (.slice A2 q c2))
                (first | go_keep | (go_split_ands; and_intros <;> (first | (refine cell_later (by assumption) ?_; first | assumption | (rw [Qt.cell (qt_of _ _)]; assumption) | (rw [Qt.cell (qt_drew _)]; assumption)) | (refine cell_later (bel_new _ _) ?_; assumption))) | (refine cell_later (by assumption) ?_; first | assumption | (rw [Qt.cell (qt_of _ _)]; assumption) | (rw [Qt.cell (qt_drew _)]; assumption)) | (refine cell_later (bel_new _ _) ?_; assumption))
                (first | (go_at_call 45; (with_reducible refine (tforest_any (n := (n : Int)) (k := L) (by repeat (first | exact S25.out | refine Sl.new ?_ _ | refine Sl.cqt ?_ (qt_drew _) | refine Sl.cqt ?_ (qt_of _ _) | refine Sl.call ?_ (by assumption) | refine Sl.cqt ?_ (by assumption))) HT.out hn).mono ?_); rintro e w6 ⟨v6, rfl, s6, b6⟩) | (go_at_call 44; (with_reducible refine (gright_no HN2.out s6 HFF.out).mono ?_); rintro e w7 ⟨rfl, b7⟩))
              all_goals
                go_wp2
                go_ret
                exact ⟨by rw [HF.out]; rfl, (by repeat (first | exact HB5.out | refine Bl.new ?_ _ | refine Bl.call ?_ (by assumption) | refine Bl.qt ?_ (by assumption) | refine Bl.qt ?_ (qt_drew _) | refine Bl.qt ?_ (qt_of _ _)))⟩
theorem Blk.on {w w' : World} {K : Nat} {T : TypeId} {cs : List Value} (h : Blk w K T cs) (hb : Below w.heap.size w w') : Blk w' K T cs := h.below hb h.lt
theorem own_far {w : World} {base : Nat} {e : TypeId} {sz n g c : Nat} {xs : List Value} (h : w.ownsRow base e sz (.slice (some ⟨g, 0, none⟩) n c) n xs) {p : Addr} (hp : g ≠ p.block) (u : Value) : (w.setCell p u).ownsRow base e sz (.slice (some ⟨g, 0, none⟩) n c) n xs := by
  refine ⟨h.1, ?_⟩
  rcases h.2 with hn | ⟨k, cap, cur, hv, hbk, hh, rest⟩
  · exact .inl hn
  · injection hv with h1 h2 h3
    injection h1 with h1
    injection h1 with h1 _ _
    subst h1 h3
    exact .inr ⟨g, c, cur, rfl, hbk, (Below.heap_setCell w p u g hp).trans hh, rest⟩
/-- What a sketch's function answers: a sketch of these words, and the error's number. -/
def SkPost (r v : Int) (n : Nat) (ws : List Nat) (w : World) (e : Ending) (w' : World) : Prop :=
  ∃ v', e = .returned (.tuple #[.agg #[.int .i64 r, .int .i64 v, v'], .int .i64 0]) ∧ Sl w' w'.heap.size 1 v' n (us ws) ∧ Below w.heap.size w w'

theorem ends_yes {n : Nat} (hn : n < 18446744073709551616) (h : Sk.isE n = true) (w : World) : Calls Tryz.prog 25 #[.int .u64 (n : Int)] w fun e w' => e = .returned (.tuple #[.int .i64 ((n : Int) / 16777216), .int .i64 ((n : Int) % 16777216), .bool true]) ∧ w = w' := by
  have h' : n / 16777216 < n % 16777216 := by unfold Sk.isE at h; simpa using h
  have t0 : ¬ ((n : Int) % 16777216 ≤ (n : Int) / 16777216) := by omega
  clear h h'
  go_enter Tryz.func25, Tryz.ntmps25
  go_wp2
  refine bodyPost_ret (v := .tuple #[.int .i64 ((n : Int) / 16777216), .int .i64 ((n : Int) % 16777216), .bool true]) ?_ rfl ⟨rfl, rfl⟩
  simp [results, Tryz.results25, go_sem]
theorem ends_no {n : Nat} (hn : n < 18446744073709551616) (h : Sk.isE n = false) (w : World) : Calls Tryz.prog 25 #[.int .u64 (n : Int)] w fun e w' => e = .returned (.tuple #[.int .i64 0, .int .i64 0, .bool false]) ∧ w = w' := by
  have h' : n % 16777216 ≤ n / 16777216 := by unfold Sk.isE at h; simpa using h
  have t0 : (n : Int) % 16777216 ≤ (n : Int) / 16777216 := by omega
  clear h h'
  go_enter Tryz.func25, Tryz.ntmps25
  go_wp2
  refine bodyPost_ret (v := .tuple #[.int .i64 0, .int .i64 0, .bool false]) ?_ rfl ⟨rfl, rfl⟩
  simp [results, Tryz.results25, go_sem]

def NmPost (ws : List Nat) (w : World) (e : Ending) (w' : World) : Prop := ∃ v', e = .returned v' ∧ Sl w' w'.heap.size 1 v' (Sk.nms ws).length (us (Sk.nms ws)) ∧ Below w.heap.size w w'
theorem snames_ok {r v : Int} {va : Value} {n : Nat} {xs : List Nat} {w : World} (h : SOk r v n) (ha : Sl w w.heap.size 1 va n (us xs)) (sa : Sk.Small xs) :
    Calls Tryz.prog 23 #[.agg #[.int .i64 r, .int .i64 v, va]] w (NmPost xs w) := by
  have H := hid h
  have hn : n ≤ 488 := by
    obtain ⟨⟨h1, h2, h3, h4⟩, h5⟩ := h
    have : r * v ≤ 8 * 61 := Int.mul_le_mul h2 h4 (by omega) (by omega)
    omega
  have hal : xs.length = n := by have := ha.len; rw [len_us] at this; omega
  have HL := hid hal
  have HS := hid sa
  obtain ⟨A, c, rfl, hnc, hcm, hl1, hx1⟩ := ha
  have HX := hid hx1
  clear h hal sa hx1 hl1 hcm
  obtain ⟨w0, hw0⟩ : ∃ z, z = w.alloc (.cells #[.int .i64 r, .int .i64 v, .slice A n c] 62) := ⟨_, rfl⟩
  obtain ⟨K2, hK2⟩ : ∃ K, K = w.heap.size := ⟨_, rfl⟩
  have s0 : w0.heap.size = K2 + 1 := by rw [hw0]; simp [hK2]
  have q0 : Below w.heap.size w w0 := by rw [hw0]; exact bel_new _ _
  have B2 : Hid (Blk w0 (K2) 62 [.int .i64 r, .int .i64 v, .slice A n c]) := hid (by rw [hK2]; exact (show Blk w0 w.heap.size 62 [.int .i64 r, .int .i64 v, .slice A n c] by rw [hw0]; exact Blk.new _ _ _))
  have HB0 : Hid (Below w.heap.size w w0) := hid q0
  have HW : Hid (w0 = (w.alloc (.cells #[.int .i64 r, .int .i64 v, .slice A n c] 62))) := hid (by rw [hw0])
  have HK : Hid (K2 = w.heap.size) := hid hK2
  clear hK2 hw0 s0 q0
  have e0 := B2.out.cell 0
  have e1 := B2.out.cell 1
  have e2 := B2.out.cell 2
  have hni : (n : Int) ≤ 488 := by omega
  go_enter Tryz.func23, Tryz.ntmps23
  go_upto_region 1 with (fail)
  rw [← HW.out, ← HK.out]
  go_wp2_with fail
  refine (sright_yes H.out _).mono ?_; rintro e w1 ⟨rfl, b1⟩
  have HB1 := hid (Bl.call HB0.out b1)
  have C2 := hid (B2.out.on b1)
  clear b1 e0 e1 e2
  have e2 := C2.out.cell 2
  go_wp2_with fail
  go_loopw [3, 15] (fun nv i wr => ∃ k : Nat, i = .int .i64 (k : Int) ∧ k ≤ n ∧ Hid (wr.ownsRow w1.heap.size 40 1 nv (Sk.nms (xs.take k)).length (us (Sk.nms (xs.take k)))) ∧ Hid (Below w1.heap.size w1 wr)) (fun _ i _ => n - (intOf i).toNat)
  case atStart => exact ⟨0, rfl, Nat.zero_le _, World.ownsRow_nil _ _ _ _, hid (Below.refl _ _)⟩
  case round =>
    obtain ⟨k, rfl, hk, HO, HB⟩ := hrel
    clear e2
    by_cases hlt : k < n
    · have hki : (k : Int) < (n : Int) := by omega
      obtain ⟨b, o, rfl, hbb, hc⟩ := HX.out (by omega)
      have hkx : k < xs.length := by rw [HL.out]; exact hlt
      have q0 := us_cell hc hkx
      have c0 := ((HB1.out.trans (HB.out.mono HB1.out.size)).cell (p := ⟨b, o + k, none⟩) hbb).trans q0
      have hst := Sk.nms_step xs k hkx
      have hln := Sk.nms_len (xs.take k)
      have hln2 : (Sk.nms (xs.take k)).length ≤ 488 := by rw [List.length_take] at hln; omega
      have hsm := Sk.small_getD HS.out k
      have hgd : xs.getD k 0 = xs[k] := by simp [List.getD, hkx]
      rw [← hgd] at hst
      have HST := hid hst
      generalize xs.getD k 0 = x at *
      have HSZ := hid HB.out.size
      have HLN := hid hln2
      clear q0 hc hst hln hgd hln2
      cases hE : Sk.isE x
      · have HE := hid hE
        clear hE
        go_wp2_with fail
        refine (ends_no hsm HE.out _).mono ?_; rintro e w' ⟨rfl, rfl⟩
        go_wp2
        go_roundw
        case rel => exact ⟨k + 1, by go_num, by omega, by rw [HST.out, HE.out]; simpa using HO, HB⟩
        case measure => simp [intOf]; omega
      · have HE := hid hE
        clear hE
        go_wp2_with fail
        refine (ends_yes hsm HE.out _).mono ?_; rintro e w' ⟨rfl, rfl⟩
        go_wp2_with (at_builtin; refine wl_app1 rfl _ _ Tus rfl (news := [.int .u64 (x : Int)]) rfl HO.out rfl rfl (us_one [x]) (by have := HLN.out; omega) HSZ.out ?_)
        intro v5 w5 hO5 hB5
        have HO5 := hid hO5
        have HB5 := hid (HB.out.trans hB5)
        clear hO5 hB5
        go_wp2
        go_roundw
        case rel => exact ⟨k + 1, by go_num, by omega, by rw [HST.out, HE.out, ← us_app, List.length_append]; exact HO5, HB5⟩
        case measure => simp [intOf]; omega
    · obtain rfl : k = n := by omega
      have hki : ¬ (k : Int) < (k : Int) := by omega
      go_wp2
      go_ret
      exact ⟨_, rfl, by rw [List.take_of_length_le (by rw [HL.out]; exact Nat.le_refl _)] at HO; exact Sl.of_own HO.out, HB1.out.trans (HB.out.mono HB1.out.size)⟩
set_option maxHeartbeats 4000000 in
theorem toggle_ok {R V N n : Nat} {l : List (Nat × Nat)} {xs : List Nat} {va v1 : Value} {w : World} (h : SOk (R : Int) (V : Int) N) (ha : Sl w w.heap.size 1 va N (us xs)) (hl : Sl w w.heap.size 2 v1 R (hcs l)) (hn : n < 18446744073709551616) (sa : Sk.Small xs) (sh : ∀ h ∈ l, HSmall h) :
    Calls Tryz.prog 53 #[.agg #[.int .i64 (R : Int), .int .i64 (V : Int), va], v1, .int .u64 (n : Int)] w (SkPost (R : Int) (V : Int) N (Sk.tog l V n xs) w) := by
  have H := hid h
  obtain ⟨⟨h1, h2, h3, h4⟩, h5⟩ := h
  have hNR : N = R * V := by have : (N : Int) = ((R * V : Nat) : Int) := by rw [h5]; simp
                             omega
  have hN : N ≤ 488 := by
    have : (R : Int) * (V : Int) ≤ 8 * 61 := Int.mul_le_mul h2 h4 (by omega) (by omega)
    omega
  have hal : xs.length = N := by have := ha.len; rw [len_us] at this; omega
  have hll : l.length = R := by have := hl.len; rw [len_hcs] at this; omega
  have HL := hid (And.intro hal hll)
  have HS := hid (And.intro sa sh)
  have HNR := hid hNR
  obtain ⟨A, c, rfl, hnc, hcm, hl1, hx1⟩ := ha
  obtain ⟨A2, c2, rfl, hnc2, hcm2, hl2, hx2⟩ := hl
  have HA : Hid (Sl w w.heap.size 1 (.slice A N c) N (us xs)) := hid ⟨A, c, rfl, hnc, hcm, hl1, hx1⟩
  have HX2 := hid hx2
  have t0 : ((R : Int) != (R : Int)) = false := by simp
  clear hx1 hx2 hl1 hl2 hcm hcm2 hal hll sa sh h5 hNR
  obtain ⟨wx0, hwx0⟩ : ∃ z, z = w.alloc (.cells #[.int .i64 (R : Int), .int .i64 (V : Int), .slice A N c] 62) := ⟨_, rfl⟩
  obtain ⟨w0, hw0⟩ : ∃ z, z = wx0.alloc (.cells #[.int .i64 0, .int .i64 0, .slice none 0 0] 62) := ⟨_, rfl⟩
  obtain ⟨K2, hK2⟩ : ∃ K, K = w.heap.size := ⟨_, rfl⟩
  have s0 : wx0.heap.size = K2 + 1 := by rw [hwx0]; simp [hK2]
  have q0 : Below w.heap.size w wx0 := by rw [hwx0]; exact bel_new _ _
  have s1 : w0.heap.size = K2 + 2 := by rw [hw0]; simp [s0]
  have q1 : Below wx0.heap.size wx0 w0 := by rw [hw0]; exact bel_new _ _
  have B2 : Hid (Blk w0 (K2) 62 [.int .i64 (R : Int), .int .i64 (V : Int), .slice A N c]) := hid (by rw [hK2]; exact ((show Blk wx0 w.heap.size 62 [.int .i64 (R : Int), .int .i64 (V : Int), .slice A N c] by rw [hwx0]; exact Blk.new _ _ _).on q1))
  have B3 : Hid (Blk w0 (K2 + 1) 62 [.int .i64 0, .int .i64 0, .slice none 0 0]) := hid (by rw [← s0]; exact (show Blk w0 wx0.heap.size 62 [.int .i64 0, .int .i64 0, .slice none 0 0] by rw [hw0]; exact Blk.new _ _ _))
  have HB0 : Hid (Below w.heap.size w w0) := hid (Bl.call q0 q1)
  have HW : Hid (w0 = ((w.alloc (.cells #[.int .i64 (R : Int), .int .i64 (V : Int), .slice A N c] 62)).alloc (.cells #[.int .i64 0, .int .i64 0, .slice none 0 0] 62))) := hid (by rw [hw0, hwx0])
  have HK : Hid (K2 = w.heap.size) := hid hK2
  clear hK2 hwx0 hw0 s0 q0 s1 q1
  go_enter Tryz.func53, Tryz.ntmps53
  go_upto_region 1 with (fail)
  rw [← HW.out, ← HK.out]
  have e0 := B2.out.cell 0
  have e1 := B2.out.cell 1
  have e2 := B2.out.cell 2
  go_wp2_with fail
  refine (sright_yes H.out _).mono ?_; rintro e w1 ⟨rfl, b1⟩
  clear e0 e1 e2
  have HB1 := hid (Bl.call HB0.out b1)
  replace B2 := hid (B2.out.on b1)
  replace B3 := hid (B3.out.on b1)
  clear b1
  have e0 := B2.out.cell 0
  have e1 := B2.out.cell 1
  have e2 := B2.out.cell 2
  go_wp2_with fail
  refine (uclone_any _ _ _ _ _ (HA.out.call HB1.out) (Nat.le_refl _) (by omega)).mono ?_; rintro e w2 ⟨v3, rfl, ho, b2⟩
  have BL2 : Hid (Below w1.heap.size w1 w2) := hid b2
  have HO2 : Hid (w2.ownsRow w1.heap.size 40 1 v3 N (us (Sk.part l V n xs 0 0))) := hid (by rw [Sk.part_start]; exact ho)
  have hN1 : 0 < N := by
    rw [HNR.out]
    exact Nat.mul_pos (by omega) (by omega)
  obtain ⟨g3, c3, rfl, hg3, _⟩ := own_form ho hN1
  clear e0 e1 e2 ho b2
  go_wp2_with fail
  go_loopw [28] (fun i wr => ∃ k : Nat, i = .int .i64 (k : Int) ∧ k ≤ R ∧ Hid (wr.ownsRow w1.heap.size 40 1 (.slice (some ⟨g3, 0, none⟩) N c3) N (us (Sk.part l V n xs k 0))) ∧ Hid (Below w1.heap.size w1 wr)) (fun i _ => R - (intOf i).toNat)
  case atStart => exact ⟨0, rfl, Nat.zero_le _, HO2, BL2⟩
  case round =>
    clear HO2 BL2
    obtain ⟨k, rfl, hk, HO, HB⟩ := hrel
    have C2 := hid (B2.out.below HB.out B2.out.lt)
    by_cases hlt : k < R
    · have hki : (k : Int) < (R : Int) := by omega
      obtain ⟨b, o, rfl, hbb, hc⟩ := HX2.out (by omega)
      have hkl : k < l.length := by rw [HL.out.2]; exact hlt
      obtain ⟨q0, q1⟩ := hcs_cell hc hkl
      have hbw := HB1.out.trans (HB.out.mono HB1.out.size)
      have c0 := (hbw.cell (p := ⟨b, o + k * 2, none⟩) hbb).trans q0
      have c1 := (hbw.cell (p := ⟨b, o + k * 2 + 1, none⟩) hbb).trans q1
      have hsm := HS.out.2 _ (List.getElem_mem hkl)
      have hgd : l.getD k (0, 0) = l[k] := by simp [List.getD, hkl]
      have HGD : Hid (∃ h, h = l[k]) := hid ⟨_, rfl⟩
      obtain ⟨h, hh⟩ := HGD.out
      rw [← hh] at c0 c1 hsm hgd
      have HH := hid (And.intro hgd hsm)
      have kv := C2.out.cell 1
      have kn := cell_later (bel_new wr (.cells #[.int .u64 (h.1 : Int), .int .u64 (h.2 : Int)] 42)) kv
      have hkV : k * V + V ≤ N := by
        rw [HNR.out, show k * V + V = (k + 1) * V by rw [Nat.add_mul]; omega]
        exact Nat.mul_le_mul_right V hlt
      obtain ⟨kV, hkV2⟩ : ∃ kV, kV = k * V := ⟨_, rfl⟩
      have hkVi : (k : Int) * (V : Int) = (kV : Int) := by rw [hkV2]; simp
      rw [← hkV2] at hkV
      have HKV := hid hkV2
      have HKVI := hid hkVi
      clear q0 q1 hc hbw hh hgd hsm HGD hkV2 hkVi
      go_wp2_with fail
      refine (deep_any h n V HH.out.2 rfl hn (by omega)).mono ?_; rintro e w4 ⟨d, rfl, hd, b4⟩
      have hBA : Below wr.heap.size wr w4 := (bel_new wr _).trans (b4.mono (bel_new wr _).size)
      have HB4 := hid (HB.out.trans (hBA.mono HB.out.size))
      have HO4 : Hid (w4.ownsRow w1.heap.size 40 1 (.slice (some ⟨g3, 0, none⟩) N c3) N (us (Sk.part l V n xs k 0))) := hid (own_below HO.out hBA)
      have HDP := hid hd
      have hdV : d ≤ V := hd.1
      clear b4 hBA hd kv kn c0 c1
      go_wp2_with fail
      go_loopw [38] (fun i wr => ∃ i' : Nat, i = .int .i64 (i' : Int) ∧ i' ≤ d ∧ Hid (wr.ownsRow w1.heap.size 40 1 (.slice (some ⟨g3, 0, none⟩) N c3) N (us (Sk.part l V n xs k i'))) ∧ Hid (Below w1.heap.size w1 wr)) (fun i _ => d - (intOf i).toNat)
      case atStart => exact ⟨0, rfl, Nat.zero_le _, HO4, HB4⟩
      case round =>
        clear HO4 HB4
        obtain ⟨i, rfl, hi, HO5, HB5⟩ := hrel
        by_cases hid' : i < d
        · have hii : (i : Int) < (d : Int) := by omega
          have C5 := hid (B2.out.below HB5.out B2.out.lt)
          have kv := C5.out.cell 1
          have hkVi := HKVI.out
          have hidx : kV + i < N := by omega
          have w1' : wr.cell? ⟨g3, kV + i, none⟩ = some (.int .u64 ((Sk.part l V n xs k i).getD (kV + i) 0 : Nat)) := by
            rw [HO5.out.cellAt (kV + i) (by omega), us_at _ _ (by rw [Sk.len_part, HL.out.1]; exact hidx)]
          have f1 := HO5.out.frozenAt (kV + i)
          have hst := Sk.part_set l V n xs k i (by omega)
          have hsm := Sk.small_getD (Sk.small_part (l := l) (v := V) hn HS.out.1 k i) (kV + i)
          rw [← HKV.out] at hst
          have HST := hid hst
          generalize (Sk.part l V n xs k i).getD (kV + i) 0 = x at *
          have hxn := bits_xor_u64_nat x n hsm hn
          have hiN : ((kV : Int) + (i : Int)) < (N : Int) := by omega
          clear hst
          go_wp2
          go_roundw
          case rel => exact ⟨i + 1, by go_num, by omega, by rw [← HST.out, ← us_set]; exact (HO5.out.stored (kV + i) _).1, HB5.out.setCell hg3 _⟩
          case measure => simp [intOf]; omega
        · obtain rfl : i = d := by omega
          have hii : ¬ (i : Int) < (i : Int) := by omega
          have HRW := hid (Sk.part_row l V n xs k i (by omega) (by rw [HH.out.1]; exact HDP.out))
          go_wp2
          go_roundw
          case rel => exact ⟨k + 1, by go_num, by omega, by rw [← HRW.out]; exact HO5, HB5⟩
          case measure => simp [intOf]; omega
    · obtain rfl : k = R := by omega
      have hki : ¬ (k : Int) < (k : Int) := by omega
      have C4 := hid (B3.out.below HB.out B3.out.lt)
      have e0 := C2.out.cell 0
      have e1 := C2.out.cell 1
      have g0 := C4.out.cell 0
      have g1 := C4.out.cell 1
      have g2 := C4.out.cell 2
      have f0 := C4.out.frozen 0
      have f1 := C4.out.frozen 1
      have f2 := C4.out.frozen 2
      have HF : Hid (Sk.part l V n xs k 0 = Sk.tog l V n xs) := hid (by
        have := Sk.part_all l V n xs (by rw [HL.out.1, HL.out.2]; exact HNR.out)
        rw [HL.out.2] at this
        exact this)
      have HBW := hid (HB1.out.trans (HB.out.mono HB1.out.size))
      have hK4 : K2 + 1 < w1.heap.size := B3.out.lt
      have hK5 : w.heap.size ≤ K2 + 1 := by rw [HK.out]; omega
      go_wp2
      have hsl : Sl (((wr.setCell ⟨K2 + 1, 0, none⟩ (.int .i64 (k : Int))).setCell ⟨K2 + 1, 1, none⟩ (.int .i64 (V : Int))).setCell ⟨K2 + 1, 2, none⟩ (.slice (some ⟨g3, 0, none⟩) N c3)) (((wr.setCell ⟨K2 + 1, 0, none⟩ (.int .i64 (k : Int))).setCell ⟨K2 + 1, 1, none⟩ (.int .i64 (V : Int))).setCell ⟨K2 + 1, 2, none⟩ (.slice (some ⟨g3, 0, none⟩) N c3)).heap.size 1 (.slice (some ⟨g3, 0, none⟩) N c3) N (us (Sk.tog l V n xs)) := by
        rw [← HF.out]
        have hne : g3 ≠ K2 + 1 := by omega
        exact Sl.of_own (own_far (own_far (own_far HO.out (p := ⟨K2 + 1, 0, none⟩) hne (.int .i64 (k : Int))) (p := ⟨K2 + 1, 1, none⟩) hne (.int .i64 (V : Int))) (p := ⟨K2 + 1, 2, none⟩) hne (.slice (some ⟨g3, 0, none⟩) N c3))
      exact bodyPost_ret (v := .tuple #[.agg #[.int .i64 (k : Int), .int .i64 (V : Int), .slice (some ⟨g3, 0, none⟩) N c3], .int .i64 0]) (by simp [results, Tryz.results53, go_sem, g0, g1, g2]) rfl ⟨_, rfl, hsl, ((HBW.out.setCell (p := ⟨K2 + 1, 0, none⟩) hK5 _).setCell (p := ⟨K2 + 1, 1, none⟩) hK5 _).setCell (p := ⟨K2 + 1, 2, none⟩) hK5 _⟩
end Go.Proofs.YtahodfikhocobaaGreatDoor
