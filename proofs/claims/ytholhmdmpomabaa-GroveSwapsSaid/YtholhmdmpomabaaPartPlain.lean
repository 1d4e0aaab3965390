namespace Pt

/-- The number at place v of a list: 0 outside it. -/
def g (p : List Int) (v : Int) : Int := p.getD v.toNat 0
/-- v is one of n. -/
def InR (n : Nat) (v : Int) : Prop := 0 ≤ v ∧ v < n
instance (n : Nat) (v : Int) : Decidable (InR n v) := by unfold InR; exact inferInstance
/-- A partition. -/
def Rt (p : List Int) : Prop := ∀ v : Int, InR p.length v → 0 ≤ g p v ∧ g p v ≤ v ∧ g p (g p v) = g p v

theorem g_map (f : Int → Int) (p : List Int) (v : Int) (h : InR p.length v) : g (p.map f) v = f (g p v) := by
  obtain ⟨h0, h1⟩ := h
  have hl : v.toNat < p.length := by omega
  simp [g, List.getD, hl]

theorem ext_g {p q : List Int} (hl : p.length = q.length) (h : ∀ v : Int, InR p.length v → g p v = g q v) : p = q := by
  apply List.ext_getElem hl
  intro i h1 h2
  have := h (i : Int) ⟨by omega, by omega⟩
  simpa [g, List.getD, h1, h2] using this

/-- The classes of u and v made one. -/
def joinL (p : List Int) (u v : Int) : List Int := p.map fun x => if x = max (g p u) (g p v) then min (g p u) (g p v) else x

theorem len_join (p : List Int) (u v : Int) : (joinL p u v).length = p.length := by simp [joinL]

theorem g_join (p : List Int) (u v x : Int) (h : InR p.length x) :
    g (joinL p u v) x = if g p x = max (g p u) (g p v) then min (g p u) (g p v) else g p x := by
  unfold joinL; rw [g_map _ _ _ h]

theorem Rt.inr {p : List Int} (h : Rt p) {v : Int} (hv : InR p.length v) : InR p.length (g p v) := by
  obtain ⟨a, b, _⟩ := h v hv
  obtain ⟨c, d⟩ := hv
  exact ⟨a, by omega⟩

theorem Rt.join {p : List Int} (h : Rt p) {u v : Int} (hu : InR p.length u) (hv : InR p.length v) : Rt (joinL p u v) := by
  intro x hx
  rw [len_join] at hx
  have hx' := h x hx
  have hu' := h u hu
  have hv' := h v hv
  have hxr := h.inr hx
  have hur := h.inr hu
  have hvr := h.inr hv
  have h1 : InR p.length (min (g p u) (g p v)) := by unfold InR at *; omega
  rw [g_join p u v x hx]
  have hmin : g p (min (g p u) (g p v)) = min (g p u) (g p v) := by
    by_cases hc : g p u ≤ g p v
    · rw [Int.min_eq_left hc]; exact hu'.2.2
    · rw [Int.min_eq_right (by omega)]; exact hv'.2.2
  by_cases hc : g p x = max (g p u) (g p v)
  · simp only [hc, if_true]
    refine ⟨by omega, by omega, ?_⟩
    rw [g_join p u v _ h1, hmin]
    split <;> omega
  · simp only [hc, if_false]
    refine ⟨by omega, by omega, ?_⟩
    rw [g_join p u v _ hxr, hx'.2.2]
    simp [hc]

theorem join_same {p : List Int} {u v x y : Int} (hx : InR p.length x) (hy : InR p.length y) (h : g p x = g p y) :
    g (joinL p u v) x = g (joinL p u v) y := by
  rw [g_join _ _ _ _ hx, g_join _ _ _ _ hy, h]

theorem join_made {p : List Int} {u v : Int} (hu : InR p.length u) (hv : InR p.length v) :
    g (joinL p u v) u = g (joinL p u v) v := by
  rw [g_join _ _ _ _ hu, g_join _ _ _ _ hv]
  split <;> split <;> omega

/-- n vertices, each alone. -/
def idl (n : Nat) : List Int := (List.range n).map Int.ofNat
theorem len_idl (n : Nat) : (idl n).length = n := by simp [idl]
theorem g_idl {n : Nat} {v : Int} (h : InR n v) : g (idl n) v = v := by
  obtain ⟨a, b⟩ := h
  have : v.toNat < n := by omega
  simp [g, idl, List.getD, this]; omega
theorem Rt_idl (n : Nat) : Rt (idl n) := by
  intro v hv
  rw [len_idl] at hv
  rw [g_idl hv]
  exact ⟨hv.1, Int.le_refl _, g_idl hv⟩

/-- The partition of edges. -/
def partOf (n : Nat) (l : List (Int × Int)) : List Int := l.foldl (fun p e => joinL p e.1 e.2) (idl n)

def MayL (n : Nat) (l : List (Int × Int)) : Prop := ∀ e ∈ l, InR n e.1 ∧ InR n e.2

theorem len_foldJoin (l : List (Int × Int)) (p : List Int) : (l.foldl (fun p e => joinL p e.1 e.2) p).length = p.length := by
  induction l generalizing p with
  | nil => rfl
  | cons e l ih => simp only [List.foldl_cons]; rw [ih, len_join]
theorem len_partOf (n : Nat) (l : List (Int × Int)) : (partOf n l).length = n := by
  unfold partOf; rw [len_foldJoin, len_idl]

theorem Rt_foldJoin (l : List (Int × Int)) (p : List Int) (hp : Rt p) (hl : MayL p.length l) : Rt (l.foldl (fun p e => joinL p e.1 e.2) p) := by
  induction l generalizing p with
  | nil => exact hp
  | cons e l ih =>
    simp only [List.foldl_cons]
    have he := hl e (by simp)
    refine ih _ (hp.join he.1 he.2) ?_
    rw [len_join]
    exact fun x hx => hl x (by simp [hx])
theorem Rt_partOf {n : Nat} {l : List (Int × Int)} (hl : MayL n l) : Rt (partOf n l) :=
  Rt_foldJoin l _ (Rt_idl n) (by rw [len_idl]; exact hl)

/-- What holds an edge's ends together holds each class together. -/
theorem univ_foldJoin {α : Type} (q : Int → α) (l : List (Int × Int)) (p : List Int) (hp : Rt p) (hl : MayL p.length l) (hq : ∀ e ∈ l, q e.1 = q e.2)
    (h0 : ∀ x, InR p.length x → q x = q (g p x)) : ∀ x, InR p.length x → q x = q (g (l.foldl (fun p e => joinL p e.1 e.2) p) x) := by
  induction l generalizing p with
  | nil => exact h0
  | cons e l ih =>
    simp only [List.foldl_cons]
    have he := hl e (by simp)
    have := ih (joinL p e.1 e.2) (hp.join he.1 he.2) (by rw [len_join]; exact fun x hx => hl x (by simp [hx])) (fun x hx => hq x (by simp [hx])) ?_
    · rw [len_join] at this; exact this
    · rw [len_join]
      intro x hx
      rw [g_join _ _ _ _ hx]
      have e1 := h0 _ he.1
      have e2 := h0 _ he.2
      have e3 := hq e (by simp)
      by_cases hc : g p x = max (g p e.1) (g p e.2)
      · simp only [hc, if_true]
        rw [h0 x hx, hc]
        by_cases hd : g p e.1 ≤ g p e.2
        · rw [Int.max_eq_right hd, Int.min_eq_left hd, ← e1, ← e2, e3]
        · rw [Int.max_eq_left (by omega), Int.min_eq_right (by omega), ← e1, ← e2, e3]
      · simp only [hc, if_false]; exact h0 x hx
theorem univ_partOf {α : Type} (q : Int → α) {n : Nat} {l : List (Int × Int)} (hl : MayL n l) (hq : ∀ e ∈ l, q e.1 = q e.2) :
    ∀ x, InR n x → q x = q (g (partOf n l) x) := by
  have := univ_foldJoin q l (idl n) (Rt_idl n) (by rw [len_idl]; exact hl) hq (fun x hx => by rw [len_idl] at hx; rw [g_idl hx])
  rwa [len_idl] at this

theorem fold_same (l : List (Int × Int)) (p : List Int) {x y : Int} (hx : InR p.length x) (hy : InR p.length y) (h : g p x = g p y) :
    g (l.foldl (fun p e => joinL p e.1 e.2) p) x = g (l.foldl (fun p e => joinL p e.1 e.2) p) y := by
  induction l generalizing p with
  | nil => exact h
  | cons e l ih =>
    simp only [List.foldl_cons]
    exact ih _ (by rw [len_join]; exact hx) (by rw [len_join]; exact hy) (join_same hx hy h)
theorem fold_made (l : List (Int × Int)) (p : List Int) (hl : MayL p.length l) : ∀ e ∈ l, g (l.foldl (fun p e => joinL p e.1 e.2) p) e.1 = g (l.foldl (fun p e => joinL p e.1 e.2) p) e.2 := by
  induction l generalizing p with
  | nil => intro e he; cases he
  | cons d l ih =>
    intro e he
    simp only [List.foldl_cons]
    have hd := hl d (by simp)
    rcases List.mem_cons.1 he with rfl | he'
    · exact fold_same l _ (by rw [len_join]; exact hd.1) (by rw [len_join]; exact hd.2) (join_made hd.1 hd.2)
    · exact ih _ (by rw [len_join]; exact fun x hx => hl x (by simp [hx])) e he'
theorem made_partOf {n : Nat} {l : List (Int × Int)} (hl : MayL n l) : ∀ e ∈ l, g (partOf n l) e.1 = g (partOf n l) e.2 :=
  fold_made l (idl n) (by rw [len_idl]; exact hl)

/-- A partition that holds the edges' ends together, and whose least ones are held together by whatever holds the edges' ends together, is THE partition of the edges. -/
theorem partOf_unique {n : Nat} {l : List (Int × Int)} (hl : MayL n l) {q : List Int} (hlen : q.length = n) (hle : ∀ x, InR n x → InR n (g q x) ∧ g q x ≤ x)
    (hm : ∀ e ∈ l, g q e.1 = g q e.2) (hc : ∀ x, InR n x → g (partOf n l) (g q x) = g (partOf n l) x) : q = partOf n l := by
  refine ext_g (by rw [hlen, len_partOf]) fun x hx => ?_
  rw [hlen] at hx
  have hR := Rt_partOf hl
  have hx' : InR (partOf n l).length x := by rw [len_partOf]; exact hx
  have h1 := hR x hx'
  have h2 := hR.inr hx'
  rw [len_partOf] at h2
  have h3 := univ_partOf (g q) hl hm x hx
  have h4 := (hle _ h2).2
  have h5 := hR (g q x) (by rw [len_partOf]; exact (hle x hx).1)
  rw [hc x hx] at h5
  omega


/-! ## How many classes -/
def cnt (p : List Int) : Nat := (List.range p.length).countP fun v : Nat => decide (g p (v : Int) = (v : Int))

theorem countP_same {n : Nat} {f h : Nat → Bool} (e : ∀ i, i < n → f i = h i) : (List.range n).countP f = (List.range n).countP h := by
  induction n with
  | zero => rfl
  | succ n ih =>
    rw [List.range_succ, List.countP_append, List.countP_append, ih fun i hi => e i (by omega)]
    simp [List.countP_cons, e n (by omega)]
theorem countP_but {n m : Nat} (hm : m < n) {f h : Nat → Bool} (e : ∀ i, i < n → i ≠ m → f i = h i) (h1 : f m = true) (h2 : h m = false) :
    (List.range n).countP f = (List.range n).countP h + 1 := by
  induction n with
  | zero => omega
  | succ n ih =>
    rw [List.range_succ, List.countP_append, List.countP_append]
    by_cases hmn : m = n
    · subst hmn
      rw [countP_same (f := f) (h := h) fun i hi => e i (by omega) (by omega)]
      simp [h1, h2]
    · rw [ih (by omega) fun i hi hne => e i (by omega) hne]
      simp [List.countP_cons, e n (by omega) (by omega)]
      omega

theorem join_id {p : List Int} {u v : Int} (h : g p u = g p v) : joinL p u v = p := by
  unfold joinL
  rw [h]
  have : ∀ x : Int, (if x = max (g p v) (g p v) then min (g p v) (g p v) else x) = x := by
    intro x; split <;> omega
  simp only [this, List.map_id']

theorem cnt_join {p : List Int} (h : Rt p) {u v : Int} (hu : InR p.length u) (hv : InR p.length v) (hne : g p u ≠ g p v) : cnt p = cnt (joinL p u v) + 1 := by
  unfold cnt
  rw [len_join]
  have hu' := h u hu
  have hv' := h v hv
  have hur := h.inr hu
  have hvr := h.inr hv
  refine countP_but (m := (max (g p u) (g p v)).toNat) ?_ ?_ ?_ ?_
  · unfold InR at *; omega
  · intro i hi hne'
    have hir : InR p.length (i : Int) := ⟨by omega, by omega⟩
    have hi' := h i hir
    rw [g_join _ _ _ _ hir]
    by_cases hc : g p (i : Int) = max (g p u) (g p v)
    · simp only [hc, if_true]
      have : ¬ max (g p u) (g p v) = (i : Int) := by unfold InR at *; omega
      have h2 : ¬ min (g p u) (g p v) = (i : Int) := by unfold InR at *; omega
      simp [this, h2]
    · simp [hc]
  · have e1 : ((max (g p u) (g p v)).toNat : Int) = max (g p u) (g p v) := by unfold InR at *; omega
    rw [e1]
    have : g p (max (g p u) (g p v)) = max (g p u) (g p v) := by
      by_cases hc : g p u ≤ g p v
      · rw [Int.max_eq_right hc]; exact hv'.2.2
      · rw [Int.max_eq_left (by omega)]; exact hu'.2.2
    simp [this]
  · have e1 : ((max (g p u) (g p v)).toNat : Int) = max (g p u) (g p v) := by unfold InR at *; omega
    have e2 : InR p.length (max (g p u) (g p v)) := by unfold InR at *; omega
    rw [e1, g_join _ _ _ _ e2]
    have : g p (max (g p u) (g p v)) = max (g p u) (g p v) := by
      by_cases hc : g p u ≤ g p v
      · rw [Int.max_eq_right hc]; exact hv'.2.2
      · rw [Int.max_eq_left (by omega)]; exact hu'.2.2
    simp [this]
    omega

/-! ## What the functions answer -/
def placeB (n v : Int) : Bool := decide (0 ≤ v) && decide (v < n)
def okAt (p : List Int) (v : Nat) : Bool := placeB p.length (g p v) && decide (g p v ≤ (v : Int)) && decide (g p (g p v) = g p v)
def rightB (p : List Int) : Bool := (List.range p.length).all (okAt p)
theorem rightB_iff (p : List Int) : rightB p = true ↔ Rt p := by
  unfold rightB Rt okAt placeB
  rw [List.all_eq_true]
  constructor
  · intro h v hv
    have := h v.toNat (by simp; unfold InR at hv; omega)
    have e : ((v.toNat : Nat) : Int) = v := by unfold InR at hv; omega
    rw [e] at this
    simp at this
    omega
  · intro h v hv
    have hv' : v < p.length := by simpa using hv
    have h1 : InR p.length (v : Int) := ⟨by omega, by omega⟩
    have := h (v : Int) h1
    have h2 := (Rt.inr h h1)
    unfold InR at h2
    simp
    omega
def manyZ (p : List Int) : Nat := if rightB p then cnt p else 0
def classL (p : List Int) (v : Int) : List Int := if rightB p && placeB p.length v then ((List.range p.length).filter fun i : Nat => decide (g p (i : Int) = g p v)).map Int.ofNat else []
def refAt (p q : List Int) (v : Nat) : Bool := decide (g q (v : Int) = g q (g p (v : Int)))
def refinesB (p q : List Int) : Bool := rightB p && rightB q && (p.length == q.length) && (List.range p.length).all (refAt p q)
def joinF (p : List Int) (u v : Int) : List Int := if rightB p && placeB p.length u && placeB p.length v then joinL p u v else p
theorem placeB_iff (n : Nat) (v : Int) : placeB n v = true ↔ InR n v := by simp [placeB, InR]
theorem refinesB_iff (p q : List Int) : refinesB p q = true ↔ Rt p ∧ Rt q ∧ p.length = q.length ∧ ∀ v, InR p.length v → g q v = g q (g p v) := by
  unfold refinesB refAt
  simp only [Bool.and_eq_true, rightB_iff, beq_iff_eq, List.all_eq_true, decide_eq_true_eq, List.mem_range, and_assoc]
  refine and_congr_right fun _ => and_congr_right fun _ => and_congr_right fun _ => ⟨fun h v hv => ?_, fun h v hv => h v ⟨by omega, by omega⟩⟩
  have := h v.toNat (by unfold InR at hv; omega)
  have e : ((v.toNat : Nat) : Int) = v := by unfold InR at hv; omega
  rwa [e] at this


/-! ## Ways upwards (union and find) -/
theorem g_set (p : List Int) (i : Nat) (y x : Int) (h : InR p.length x) : g (p.set i y) x = if x.toNat = i then y else g p x := by
  obtain ⟨h0, h1⟩ := h
  have hl : x.toNat < p.length := by omega
  by_cases hi : x.toNat = i
  · subst hi
    simp [g, List.getD, hl]
  · simp [g, List.getD, hi, Ne.symm hi]

/-- The ways of zs lead up to what the partition P says. -/
def Uf (zs P : List Int) : Prop :=
  zs.length = P.length ∧ ∀ x, InR P.length x → 0 ≤ g zs x ∧ g zs x ≤ x ∧ g P (g zs x) = g P x ∧ (g zs x = x → g P x = x)

theorem Uf_id (n : Nat) : Uf (idl n) (idl n) := by
  refine ⟨rfl, fun x hx => ?_⟩
  rw [len_idl] at hx
  rw [g_idl hx]
  exact ⟨hx.1, Int.le_refl _, g_idl hx, fun _ => rfl⟩

theorem Uf.inr {zs P : List Int} (h : Uf zs P) {v : Int} (hv : InR P.length v) : InR P.length (g zs v) := by
  obtain ⟨a, b, _⟩ := h.2 v hv
  unfold InR at *; omega

theorem Uf.short {zs P : List Int} (h : Uf zs P) {v : Int} (hv : InR P.length v) : Uf (zs.set v.toNat (g zs (g zs v))) P := by
  refine ⟨by simp [h.1], fun x hx => ?_⟩
  have hr := h.inr hv
  have h1 := h.2 v hv
  have h2 := h.2 _ hr
  have h3 := h.2 x hx
  rw [g_set _ _ _ _ (by rw [h.1]; exact hx)]
  by_cases hc : x.toNat = v.toNat
  · have hxv : x = v := by unfold InR at *; omega
    subst hxv
    simp only [if_true]
    refine ⟨h2.1, by omega, by rw [h2.2.2.1, h1.2.2.1], fun he => ?_⟩
    exact h1.2.2.2 (by omega)
  · simp only [hc, if_false]
    exact h3

theorem Uf.union {zs P : List Int} (h : Uf zs P) (hP : Rt P) {u v : Int} (hu : InR P.length u) (hv : InR P.length v) :
    Uf (zs.set (max (g P u) (g P v)).toNat (min (g P u) (g P v))) (joinL P u v) := by
  have hu' := hP u hu
  have hv' := hP v hv
  have hur := hP.inr hu
  have hvr := hP.inr hv
  refine ⟨by simp [h.1, len_join], fun x hx => ?_⟩
  rw [len_join] at hx
  have h3 := h.2 x hx
  rw [g_set _ _ _ _ (by rw [h.1]; exact hx)]
  have hmin : g P (min (g P u) (g P v)) = min (g P u) (g P v) := by
    by_cases hc : g P u ≤ g P v
    · rw [Int.min_eq_left hc]; exact hu'.2.2
    · rw [Int.min_eq_right (by omega)]; exact hv'.2.2
  have hmax : g P (max (g P u) (g P v)) = max (g P u) (g P v) := by
    by_cases hc : g P u ≤ g P v
    · rw [Int.max_eq_right hc]; exact hv'.2.2
    · rw [Int.max_eq_left (by omega)]; exact hu'.2.2
  have hminr : InR P.length (min (g P u) (g P v)) := by unfold InR at *; omega
  by_cases hc : x.toNat = (max (g P u) (g P v)).toNat
  · have hxv : x = max (g P u) (g P v) := by unfold InR at *; omega
    subst hxv
    simp only [if_true]
    refine ⟨by unfold InR at *; omega, by omega, ?_, fun he => ?_⟩
    · rw [g_join _ _ _ _ hminr, g_join _ _ _ _ hx, hmin, hmax]
      simp
    · rw [g_join _ _ _ _ hx, hmax]; simp; omega
  · simp only [hc, if_false]
    refine ⟨h3.1, h3.2.1, ?_, fun he => ?_⟩
    · rw [g_join _ _ _ _ (h.inr hx), g_join _ _ _ _ hx, h3.2.2.1]
    · rw [g_join _ _ _ _ hx, h3.2.2.2 he]
      rw [if_neg]
      intro h; exact hc (by rw [h])

/-- The first k are told what the partition says, the others by ways. -/
def Flat (zs P : List Int) (k : Nat) : Prop := Uf zs P ∧ ∀ x, InR P.length x → x < k → g zs x = g P x
theorem Uf.flat {zs P : List Int} (h : Uf zs P) : Flat zs P 0 := ⟨h, fun x hx hk => by unfold InR at hx; omega⟩
theorem Flat.step {zs P : List Int} {k : Nat} (h : Flat zs P k) (hk : k < P.length) : Flat (zs.set k (g zs (g zs (k : Int)))) P (k + 1) := by
  have hkr : InR P.length (k : Int) := ⟨by omega, by omega⟩
  have hs := h.1.short hkr
  simp only [Int.toNat_natCast] at hs
  refine ⟨hs, fun x hx hlt => ?_⟩
  rw [g_set _ _ _ _ (by rw [h.1.1]; exact hx)]
  have hk' := h.1.2 _ hkr
  by_cases hc : x.toNat = k
  · have hxk : x = (k : Int) := by unfold InR at hx; omega
    subst hxk
    simp only [hc, if_true]
    by_cases he : g zs (k : Int) = (k : Int)
    · rw [he, he, hk'.2.2.2 he]
    · rw [h.2 _ (h.1.inr hkr) (by omega), hk'.2.2.1]
  · simp only [hc, if_false]
    exact h.2 x hx (by unfold InR at hx; omega)
theorem Flat.done {zs P : List Int} (h : Flat zs P P.length) : zs = P := by
  refine ext_g h.1.1 fun x hx => h.2 x (by rw [← h.1.1]; exact hx) ?_
  rw [h.1.1] at hx; exact hx.2


/-- The first k places have their own number, the others 0. -/
def fillI (n k : Nat) : List Int := (List.range n).map fun i : Nat => if i < k then (i : Int) else 0
theorem fillI_zero (n : Nat) : fillI n 0 = List.replicate n 0 := by
  apply List.ext_getElem
  · simp [fillI]
  · intro i h1 h2; simp [fillI]
theorem fillI_all (n : Nat) : fillI n n = idl n := by
  apply List.ext_getElem
  · simp [fillI, idl]
  · intro i h1 h2
    simp [fillI] at h1
    simp [fillI, idl, h1]
theorem fillI_set (n k : Nat) : (fillI n k).set k (k : Int) = fillI n (k + 1) := by
  apply List.ext_getElem
  · simp [fillI]
  · intro i h1 h2
    simp only [List.getElem_set, fillI, List.getElem_map, List.getElem_range]
    by_cases h : k = i
    · subst h; simp
    · simp only [h, if_false]
      by_cases h3 : i < k
      · rw [if_pos h3, if_pos (by omega)]
      · rw [if_neg h3, if_neg (by omega)]
theorem len_fillI (n k : Nat) : (fillI n k).length = n := by simp [fillI]


/-! ## Loops, as far as they have come -/
def cntK (p : List Int) (k : Nat) : Nat := (List.range k).countP fun v : Nat => decide (g p (v : Int) = (v : Int))
theorem cntK_le (p : List Int) (k : Nat) : cntK p k ≤ k := by
  have := List.countP_le_length (p := fun v : Nat => decide (g p (v : Int) = (v : Int))) (l := List.range k)
  simpa [cntK] using this
theorem cntK_step (p : List Int) (k : Nat) : cntK p (k + 1) = cntK p k + if g p (k : Int) = (k : Int) then 1 else 0 := by
  simp only [cntK, List.range_succ, List.countP_append]
  by_cases h : g p (k : Int) = (k : Int) <;> simp [h]
theorem cntK_all (p : List Int) : cntK p p.length = cnt p := rfl
def clK (p : List Int) (v : Int) (k : Nat) : List Int := ((List.range k).filter fun i : Nat => decide (g p (i : Int) = g p v)).map Int.ofNat
theorem clK_le (p : List Int) (v : Int) (k : Nat) : (clK p v k).length ≤ k := by
  have := List.length_filter_le (fun i : Nat => decide (g p (i : Int) = g p v)) (List.range k)
  simpa [clK] using this
theorem clK_step (p : List Int) (v : Int) (k : Nat) : clK p v (k + 1) = clK p v k ++ if g p (k : Int) = g p v then [(k : Int)] else [] := by
  simp only [clK, List.range_succ, List.filter_append, List.map_append]
  by_cases h : g p (k : Int) = g p v <;> simp [h]
/-- The first k of joined are joined, the others as they were. -/
def joinK (p : List Int) (u v : Int) (k : Nat) : List Int := (joinL p u v).take k ++ p.drop k
theorem len_joinK (p : List Int) (u v : Int) {k : Nat} (h : k ≤ p.length) : (joinK p u v k).length = p.length := by
  simp [joinK, len_join]; omega
theorem joinK_zero (p : List Int) (u v : Int) : joinK p u v 0 = p := by simp [joinK]
theorem joinK_all (p : List Int) (u v : Int) : joinK p u v p.length = joinL p u v := by simp [joinK, ← len_join p u v]
theorem joinK_at (p : List Int) (u v : Int) {k : Nat} (h : k < p.length) : (joinK p u v k).getD k 0 = p.getD k 0 := by
  have : ((joinL p u v).take k).length = k := by simp [len_join]; omega
  simp [joinK, List.getD, List.getElem?_append_right, this]
theorem joinK_step (p : List Int) (u v : Int) {k : Nat} (h : k < p.length) :
    joinK p u v (k + 1) = (joinK p u v k).set k (if p.getD k 0 = max (g p u) (g p v) then min (g p u) (g p v) else p.getD k 0) := by
  have hl : ((joinL p u v).take k).length = k := by simp [len_join]; omega
  have hk : k < (joinL p u v).length := by rw [len_join]; exact h
  unfold joinK
  rw [List.take_succ_eq_append_getElem hk, List.set_append_right _ _ (by omega), hl, Nat.sub_self, List.append_assoc]
  congr 1
  rw [List.drop_eq_getElem_cons h, List.set_cons_zero]
  simp [joinL, List.getD, h]
theorem joinK_keep (p : List Int) (u v : Int) {k : Nat} (h : k < p.length) (hne : p.getD k 0 ≠ max (g p u) (g p v)) : joinK p u v (k + 1) = joinK p u v k := by
  rw [joinK_step p u v h, if_neg hne, ← joinK_at p u v h]
  have hl := len_joinK p u v (k := k) (by omega)
  apply List.ext_getElem (by simp)
  intro i h1 h2
  by_cases hi : k = i
  · subst hi; simp [List.getD, h2]
  · simp [hi]


/-! ## Edges -/
abbrev Ed := Int × Int × Int
def uv (l : List Ed) : List (Int × Int) := l.map fun e => (e.1, e.2.1)
def edB (n : Int) (e : Ed) : Bool := placeB n e.1 && placeB n e.2.1
def mayB (n : Int) (l : List Ed) : Bool := l.all (edB n)
theorem mayB_iff (n : Nat) (l : List Ed) : mayB n l = true ↔ MayL n (uv l) := by
  unfold mayB MayL uv edB
  simp only [List.all_eq_true, Bool.and_eq_true, placeB_iff, List.mem_map]
  exact ⟨fun h e ⟨x, hx, he⟩ => by subst he; exact h x hx, fun h x hx => h _ ⟨x, hx, rfl⟩⟩
theorem uv_take (l : List Ed) (k : Nat) : uv (l.take k) = (uv l).take k := by simp [uv, List.map_take]
theorem take_one {α : Type} (l : List α) {k : Nat} (h : k < l.length) : l.take (k + 1) = l.take k ++ [l[k]] := List.take_succ_eq_append_getElem h
theorem partOf_snoc (n : Nat) (l : List (Int × Int)) (e : Int × Int) : partOf n (l ++ [e]) = joinL (partOf n l) e.1 e.2 := by simp [partOf, List.foldl_append]
theorem MayL.take {n : Nat} {l : List (Int × Int)} (h : MayL n l) (k : Nat) : MayL n (l.take k) := fun e he => h e (List.mem_of_mem_take he)


/-! ## The document's own way: lesser ones are handed on till nothing changes -/
def LI (n : Nat) (P q : List Int) : Prop := q.length = n ∧ ∀ x, InR n x → 0 ≤ g q x ∧ g q x ≤ x ∧ g P (g q x) = g P x
def sumI : List Int → Nat
  | [] => 0
  | a :: l => a.toNat + sumI l
theorem sumI_set (l : List Int) (i : Nat) (y : Int) (h : i < l.length) (hy : y.toNat < (l.getD i 0).toNat) : sumI (l.set i y) < sumI l := by
  induction l generalizing i with
  | nil => simp at h
  | cons a l ih =>
    cases i with
    | zero => simp [sumI] at hy ⊢; omega
    | succ i =>
      have := ih i (by simpa using h) (by simpa using hy)
      simp [sumI]; omega
theorem LI_id {n : Nat} {P : List Int} : LI n P (idl n) :=
  ⟨len_idl n, fun x hx => by rw [g_idl hx]; exact ⟨hx.1, Int.le_refl _, rfl⟩⟩
theorem LI.inr {n : Nat} {P q : List Int} (h : LI n P q) {x : Int} (hx : InR n x) : InR n (g q x) := by
  have := h.2 x hx; unfold InR at *; omega
theorem LI.step {n : Nat} {P q : List Int} (h : LI n P q) {u v : Int} (hu : InR n u) (hv : InR n v) (huv : g P u = g P v) (hlt : g q u < g q v) :
    LI n P (q.set v.toNat (g q u)) ∧ sumI (q.set v.toNat (g q u)) < sumI q := by
  have h1 := h.2 u hu
  have h2 := h.2 v hv
  refine ⟨⟨by simp [h.1], fun x hx => ?_⟩, sumI_set _ _ _ (by rw [h.1]; unfold InR at hv; omega) ?_⟩
  · rw [g_set _ _ _ _ (by rw [h.1]; exact hx)]
    by_cases hc : x.toNat = v.toNat
    · have hxv : x = v := by unfold InR at *; omega
      subst hxv
      simp only [if_true]
      exact ⟨h1.1, by omega, by rw [h1.2.2, huv]⟩
    · simp only [hc, if_false]; exact h.2 x hx
  · show (g q u).toNat < (g q v).toNat
    omega
theorem LI.done {n : Nat} {l : List (Int × Int)} (hl : MayL n l) {q : List Int} (h : LI n (partOf n l) q) (he : ∀ e ∈ l, g q e.1 = g q e.2) : q = partOf n l :=
  partOf_unique hl h.1 (fun x hx => ⟨h.inr hx, (h.2 x hx).2.1⟩) he (fun x hx => (h.2 x hx).2.2)
theorem idl_snoc (k : Nat) : idl k ++ [(k : Int)] = idl (k + 1) := by simp [idl, List.range_succ]

end Pt
