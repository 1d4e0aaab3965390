/- Contracts of seq.around, seq.At. -/
import Derived.Test.YtleeomiocofgiaaSeqB
import Derived.Deep.LoopGhost
namespace Go.Proofs.Ytleeomiocofgiaa
open Go.RowKit Sq
set_option linter.unusedVariables false

theorem qt_drew (w : World) : Qt w w.drew := ⟨1, rfl⟩

def AroundSaid (n : Nat) : Prop := ∀ (va vb : Option Addr) (a b : Tr Int) (x : Int) (w : World), sz a + sz b = n → IsTr w w.heap.size va a → IsTr w w.heap.size vb b → sz a + sz b ≤ 10000000 →
    Calls Try.prog 16 #[.pointer va, .int .i64 x, .pointer vb] w (TrPost w (around a x b))

set_option maxRecDepth 100000 in
set_option maxHeartbeats 2000000 in
theorem around_l {n : Nat} (ih : ∀ m, m < n → AroundSaid m) {va vb : Option Addr} {aa ab b : Tr Int} {ax x : Int} {w : World} (hn : sz (.node aa ax ab) + sz b = n) (ha : IsTr w w.heap.size va (.node aa ax ab)) (hb : IsTr w w.heap.size vb b)
    (hs : sz (.node aa ax ab) + sz b ≤ 10000000) (h : ht b + 1 < ht (.node aa ax ab)) :
    Calls Try.prog 16 #[.pointer va, .int .i64 x, .pointer vb] w (TrPost w (around (.node aa ax ab) x b)) := by
  rw [around_left h]
  have HA := hid ha
  have HB := hid hb
  obtain ⟨k, pa, pb, rfl, hlt, c0, c1, c2, c3, c4, hpa, hpb⟩ := ha
  have HPA := hid hpa
  have HPB := hid hpb
  have hsz : sz (.node aa ax ab) = sz aa + 1 + sz ab := rfl
  have IH : ∀ {va vb : Option Addr} {w : World}, IsTr w w.heap.size va ab → IsTr w w.heap.size vb b → Hid (sz ab + sz b < n) → Calls Try.prog 16 #[.pointer va, .int .i64 x, .pointer vb] w (TrPost w (around ab x b)) :=
    fun {va vb w} h1 h2 h3 => ih (sz ab + sz b) h3.out va vb ab b x w rfl h1 h2 (by omega)
  have h3 : Hid (sz ab + sz b < n) := hid (by omega)
  have q1 : sz ab + sz b ≤ 10000000 := by omega
  have q2 : sz aa + sz (around ab x b) ≤ 100000000 := by rw [sz_around]; omega
  have b1 := ht_le_sz b
  have b2 := ht_le_sz (.node aa ax ab)
  rw [hsz] at b2
  have hs1 : sz aa + sz ab + sz b ≤ 10000000 := by omega
  have h' : (ht b : Int) + 1 < (ht (.node aa ax ab) : Int) := by omega
  clear hb hpa hpb c3 c4 hs hsz ih hn
  go_enter Try.func16, Try.ntmps16
  go_wp2_with fail
  refine (height_any HA.out).mono ?_; rintro e w' ⟨rfl, rfl⟩
  go_wp2_with fail
  refine (height_any HB.out).mono ?_; rintro e w' ⟨rfl, rfl⟩
  go_wp2_with fail
  go_region_held3 (fun w' => w'.cell? ⟨k, 0, none⟩ = some (.pointer pa) ∧ w'.cell? ⟨k, 1, none⟩ = some (.pointer pb) ∧ w'.cell? ⟨k, 2, none⟩ = some (.int .i64 ax))
    (first | go_keep | (go_split_ands; refine ⟨?_, ?_, ?_⟩ <;> (refine cell_later hb3 ?_; assumption)) | (go_split_ands; refine ⟨?_, ?_, ?_⟩ <;> (refine cell_later hb2 ?_; first | assumption | (rw [Qt.cell (qt_of _ _)]; assumption) | (rw [Qt.cell (qt_drew _)]; assumption))))
    (first | (go_at_call 16; (with_reducible refine (IH (HPB.out.cqt (qt_of _ _)) (HB.out.cqt (qt_of _ _)) h3).mono ?_); rintro e w' ⟨vt, rfl, hT, hb2⟩)
           | (go_at_call 16; (with_reducible refine (IH (HPB.out.cqt (qt_drew _)) (HB.out.cqt (qt_drew _)) h3).mono ?_); rintro e w' ⟨vt, rfl, hT, hb2⟩)
           | (go_at_call 18; (with_reducible refine (turned_any ((HPA.out.cqt (qt_of _ _)).call hb2) hT q2).mono ?_); rintro e w' ⟨vt2, rfl, hT2, hb3⟩)
           | (go_at_call 18; (with_reducible refine (turned_any ((HPA.out.cqt (qt_drew _)).call hb2) hT q2).mono ?_); rintro e w' ⟨vt2, rfl, hT2, hb3⟩))
  go_wp2
  go_ret
  exact ⟨_, rfl, hT2, (by first | exact Bl.call (Bl.call ((Qt.refl w).drewN _).bel hb2) hb3 | exact Bl.call (Bl.call (qt_drew w).bel hb2) hb3)⟩

set_option maxRecDepth 100000 in
set_option maxHeartbeats 2000000 in
theorem around_r {n : Nat} (ih : ∀ m, m < n → AroundSaid m) {va vb : Option Addr} {a ba bb : Tr Int} {bx x : Int} {w : World} (hn : sz a + sz (.node ba bx bb) = n) (ha : IsTr w w.heap.size va a) (hb : IsTr w w.heap.size vb (.node ba bx bb))
    (hs : sz a + sz (.node ba bx bb) ≤ 10000000) (h0 : ¬ ht (.node ba bx bb) + 1 < ht a) (h : ht a + 1 < ht (.node ba bx bb)) :
    Calls Try.prog 16 #[.pointer va, .int .i64 x, .pointer vb] w (TrPost w (around a x (.node ba bx bb))) := by
  rw [around_right h0 h]
  have HA := hid ha
  have HB := hid hb
  obtain ⟨k, pa, pb, rfl, hlt, c0, c1, c2, c3, c4, hpa, hpb⟩ := hb
  have HPA := hid hpa
  have HPB := hid hpb
  have hsz : sz (.node ba bx bb) = sz ba + 1 + sz bb := rfl
  have IH : ∀ {va vb : Option Addr} {w : World}, IsTr w w.heap.size va a → IsTr w w.heap.size vb ba → Hid (sz a + sz ba < n) → Calls Try.prog 16 #[.pointer va, .int .i64 x, .pointer vb] w (TrPost w (around a x ba)) :=
    fun {va vb w} h1 h2 h3 => ih (sz a + sz ba) h3.out va vb a ba x w rfl h1 h2 (by omega)
  have h3 : Hid (sz a + sz ba < n) := hid (by omega)
  have q1 : sz a + sz ba ≤ 10000000 := by omega
  have q2 : sz (around a x ba) + sz bb ≤ 100000000 := by rw [sz_around]; omega
  have b1 := ht_le_sz a
  have b2 := ht_le_sz (.node ba bx bb)
  rw [hsz] at b2
  have hs1 : sz a + sz ba + sz bb ≤ 10000000 := by omega
  have h0' : ¬ (ht (.node ba bx bb) : Int) + 1 < (ht a : Int) := by omega
  have h' : (ht a : Int) + 1 < (ht (.node ba bx bb) : Int) := by omega
  clear ha hpa hpb c3 c4 hs hsz ih hn
  go_enter Try.func16, Try.ntmps16
  go_wp2_with fail
  refine (height_any HA.out).mono ?_; rintro e w' ⟨rfl, rfl⟩
  go_wp2_with fail
  refine (height_any HB.out).mono ?_; rintro e w' ⟨rfl, rfl⟩
  go_wp2_with fail
  refine (height_any HB.out).mono ?_; rintro e w' ⟨rfl, rfl⟩
  go_wp2_with fail
  refine (height_any HA.out).mono ?_; rintro e w' ⟨rfl, rfl⟩
  go_wp2_with fail
  go_region_held3 (fun w' => w'.cell? ⟨k, 0, none⟩ = some (.pointer pa) ∧ w'.cell? ⟨k, 1, none⟩ = some (.pointer pb) ∧ w'.cell? ⟨k, 2, none⟩ = some (.int .i64 bx))
    (first | go_keep | (go_split_ands; refine ⟨?_, ?_, ?_⟩ <;> (refine cell_later hb3 ?_; assumption)) | (go_split_ands; refine ⟨?_, ?_, ?_⟩ <;> (refine cell_later hb2 ?_; first | assumption | (rw [Qt.cell (qt_of _ _)]; assumption) | (rw [Qt.cell (qt_drew _)]; assumption))))
    (first | (go_at_call 16; (with_reducible refine (IH (HA.out.cqt (qt_of _ _)) (HPA.out.cqt (qt_of _ _)) h3).mono ?_); rintro e w' ⟨vt, rfl, hT, hb2⟩)
           | (go_at_call 16; (with_reducible refine (IH (HA.out.cqt (qt_drew _)) (HPA.out.cqt (qt_drew _)) h3).mono ?_); rintro e w' ⟨vt, rfl, hT, hb2⟩)
           | (go_at_call 18; (with_reducible refine (turned_any hT ((HPB.out.cqt (qt_of _ _)).call hb2) q2).mono ?_); rintro e w' ⟨vt2, rfl, hT2, hb3⟩)
           | (go_at_call 18; (with_reducible refine (turned_any hT ((HPB.out.cqt (qt_drew _)).call hb2) q2).mono ?_); rintro e w' ⟨vt2, rfl, hT2, hb3⟩))
  go_wp2
  go_ret
  exact ⟨_, rfl, hT2, (by first | exact Bl.call (Bl.call ((Qt.refl w).drewN _).bel hb2) hb3 | exact Bl.call (Bl.call (qt_drew w).bel hb2) hb3)⟩

theorem around_m {va vb : Option Addr} {a b : Tr Int} {x : Int} {w : World} (ha : IsTr w w.heap.size va a) (hb : IsTr w w.heap.size vb b) (hs : sz a + sz b ≤ 10000000) (h0 : ¬ ht b + 1 < ht a) (h : ¬ ht a + 1 < ht b) :
    Calls Try.prog 16 #[.pointer va, .int .i64 x, .pointer vb] w (TrPost w (around a x b)) := by
  rw [around_mid h0 h]
  have HA := hid ha
  have HB := hid hb
  have q1 : sz a ≤ 1000000000 := by omega
  have q2 : sz b ≤ 1000000000 := by omega
  have b1 := ht_le_sz a
  have b2 := ht_le_sz b
  have h0' : ¬ (ht b : Int) + 1 < (ht a : Int) := by omega
  have h' : ¬ (ht a : Int) + 1 < (ht b : Int) := by omega
  clear ha hb
  go_enter Try.func16, Try.ntmps16
  go_wp2_with fail
  refine (height_any HA.out).mono ?_; rintro e w' ⟨rfl, rfl⟩
  go_wp2_with fail
  refine (height_any HB.out).mono ?_; rintro e w' ⟨rfl, rfl⟩
  go_wp2_with fail
  refine (height_any HB.out).mono ?_; rintro e w' ⟨rfl, rfl⟩
  go_wp2_with fail
  refine (height_any HA.out).mono ?_; rintro e w' ⟨rfl, rfl⟩
  go_wp2_with fail
  refine (tree_any HA.out HB.out q1 q2).mono ?_; rintro e w' ⟨vt, rfl, hT, hb2⟩
  go_wp2
  go_ret
  exact ⟨_, rfl, hT, hb2⟩
theorem around_said (n : Nat) : AroundSaid n := by
  induction n using Nat.strongRecOn with
  | _ n ih =>
    intro va vb a b x w hn ha hb hs
    by_cases h0 : ht b + 1 < ht a
    · cases a with
      | nil => simp [ht] at h0
      | node aa ax ab => exact around_l ih hn ha hb hs h0
    · by_cases h : ht a + 1 < ht b
      · cases b with
        | nil => simp [ht] at h
        | node ba bx bb => exact around_r ih hn ha hb hs h0 h
      · exact around_m ha hb hs h0 h
theorem around_any {va vb : Option Addr} {a b : Tr Int} {x : Int} {w : World} (ha : IsTr w w.heap.size va a) (hb : IsTr w w.heap.size vb b) (hs : sz a + sz b ≤ 10000000) :
    Calls Try.prog 16 #[.pointer va, .int .i64 x, .pointer vb] w (TrPost w (around a x b)) := around_said _ va vb a b x w rfl ha hb hs

/-- What At answers. -/
def atV (t : Tr Int) (i : Int) : Int := if 0 ≤ i then (atT t i.toNat).getD 0 else 0
def atOk (t : Tr Int) (i : Int) : Bool := decide (0 ≤ i) && decide (i < sz t)
theorem at_in {v : Option Addr} {t : Tr Int} {B : Nat} {w : World} {i : Nat} (h : IsTr w B v t) (hi : i < sz t) (hs : sz t ≤ 1000000000) :
    Calls Try.prog 9 #[.pointer v, .int .i64 i] w fun e w' => e = .returned (.tuple #[.int .i64 ((atT t i).getD 0), .bool true]) ∧ w = w' := by
  have H := hid h
  have hi' : ¬ (sz t : Int) ≤ (i : Int) := by omega
  have hi0 : ¬ (i : Int) < 0 := by omega
  have hi1 : decide ((i : Int) < 0) = false := decide_eq_false hi0
  have hi2 : decide ((sz t : Int) ≤ (i : Int)) = false := decide_eq_false hi'
  have hi3 : ¬ sz t ≤ i := by omega
  have hi4 : decide (sz t ≤ i) = false := decide_eq_false hi3
  obtain ⟨r, hr⟩ : ∃ r, r = (atT t i).getD 0 := ⟨_, rfl⟩
  rw [← hr]
  have HR := hid hr
  clear h hr
  go_enter Try.func9, Try.ntmps9
  go_wp2_with fail
  refine (len_any H.out).mono ?_; rintro e w' ⟨rfl, rfl⟩
  go_wp2_with fail
  go_loopg [0, 1] (sz t) (fun gk p i wr => ∃ (u : Tr Int) (q : Option Addr) (j : Nat), p = .pointer q ∧ i = .int .i64 j ∧ IsTr w B q u ∧ j < sz u ∧ gk = sz u ∧ sz u ≤ 1000000000 ∧ Hid ((atT u j).getD 0 = r) ∧ wr = w)
  case atStart => exact ⟨t, v, i, rfl, rfl, H.out, hi, rfl, hs, HR.out.symm, rfl⟩
  case round =>
    obtain ⟨u, q, j, rfl, rfl, hu, hj, rfl, hsu, hat, rfl⟩ := hrel
    cases u with
    | nil => simp [sz] at hj
    | node a x b =>
      obtain ⟨k, pa, pb, rfl, hlt, c0, c1, c2, c3, c4, hpa, hpb⟩ := hu
      have HPA := hid hpa
      have HPB := hid hpb
      have hat' := hat.out
      rw [atT] at hat'
      have HAT := hid hat'
      have hsz : Hid (sz (.node a x b) = sz a + 1 + sz b) := hid rfl
      have hj' := hj
      have hsu' := hsu
      rw [hsz.out] at hj' hsu'
      clear hpa hpb hat hat' c3 c4 hj hsu H HR hs
      rcases Nat.lt_trichotomy j (sz a) with hc | hc | hc
      · have e1 : (j : Int) < (sz a : Int) := by omega
        go_wp2_with fail
        refine (len_any HPA.out).mono ?_; rintro e w' ⟨rfl, rfl⟩
        go_wp2
        go_roundg (sz a)
        case measure => rw [hsz.out]; omega
        case rel => exact ⟨a, pa, j, rfl, rfl, HPA.out, hc, rfl, by omega, by have := HAT.out; rwa [if_pos hc] at this, rfl⟩
      · have e1 : ¬ (j : Int) < (sz a : Int) := by omega
        have e2 : ¬ (sz a : Int) < (j : Int) := by omega
        have hr' := HAT.out
        rw [if_neg (by omega), if_pos hc] at hr'
        have HX := hid hr'
        clear hr' HAT hc
        go_wp2_with fail
        refine (len_any HPA.out).mono ?_; rintro e w' ⟨rfl, rfl⟩
        go_wp2
        go_ret2
        first | exact ⟨rfl, rfl⟩ | exact ⟨by have := HX.out; simp at this; rw [← this]; rfl, rfl⟩
      · have e1 : ¬ (j : Int) < (sz a : Int) := by omega
        have e2 : (sz a : Int) < (j : Int) := by omega
        have hr' := HAT.out
        rw [if_neg (by omega), if_neg (by omega)] at hr'
        have HX := hid hr'
        clear hr' HAT
        go_wp2_with fail
        refine (len_any HPA.out).mono ?_; rintro e w' ⟨rfl, rfl⟩
        go_wp2
        go_roundg (sz b)
        case measure => rw [hsz.out]; omega
        case rel => exact ⟨b, pb, j - sz a - 1, rfl, by go_num, HPB.out, by omega, rfl, by omega, HX.out, rfl⟩
theorem at_out {v : Option Addr} {t : Tr Int} {B : Nat} {w : World} {i : Int} (h : IsTr w B v t) (hi : i < 0 ∨ (sz t : Int) ≤ i) :
    Calls Try.prog 9 #[.pointer v, .int .i64 i] w fun e w' => e = .returned (.tuple #[.int .i64 0, .bool false]) ∧ w = w' := by
  have H := hid h
  clear h
  by_cases h0 : i < 0
  · go_enter Try.func9, Try.ntmps9
    go_wp2
    go_ret2
    exact ⟨rfl, rfl⟩
  · have h1 : (sz t : Int) ≤ i := by omega
    clear hi
    go_enter Try.func9, Try.ntmps9
    go_wp2_with fail
    refine (len_any H.out).mono ?_; rintro e w' ⟨rfl, rfl⟩
    go_wp2
    go_ret2
    exact ⟨rfl, rfl⟩
end Go.Proofs.Ytleeomiocofgiaa
