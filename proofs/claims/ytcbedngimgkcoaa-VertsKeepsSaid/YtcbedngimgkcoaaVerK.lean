/- Parts of a slice; contract of the document's Keys. -/
import Derived.Test.YtcbedngimgkcoaaVerJ
namespace Go.Proofs.Ytcbedngimgkcoaa
open Go.RowKit
set_option linter.unusedVariables false
set_option linter.unusedSimpArgs false
attribute [local go_sem ↓] Go.wp_at_zero Go.wp_at_succ

/-- Where a part begins. -/
def cutA (A : Option Addr) (c lo sz : Nat) : Option Addr := if c = lo then A else A.map (·.add (lo * sz))
theorem Sl.drop {w : World} {B sz n c k : Nat} {A : Option Addr} {xs : List Value} (h : Sl w B sz (.slice A n c) n xs) (hk : k ≤ n) : Sl w B sz (.slice (cutA A c k sz) (n - k) (c - k)) (n - k) (xs.drop (k * sz)) := by
  obtain ⟨A', c', hv, hnc, hcm, hl, hx⟩ := h
  injection hv with e1 e2 e3
  subst e1 e3
  refine ⟨_, _, rfl, by omega, by omega, by rw [List.length_drop, hl, Nat.sub_mul], fun h0 => ?_⟩
  obtain ⟨b, o, rfl, hb, hc⟩ := hx (by omega)
  refine ⟨b, o + k * sz, by unfold cutA; rw [if_neg (by omega)]; simp [Addr.add_lit], hb, fun j u hu => ?_⟩
  rw [List.getElem?_drop] at hu
  rw [Nat.add_assoc]
  exact hc _ u hu
theorem Sl.take {w : World} {B sz n c k : Nat} {A : Option Addr} {xs : List Value} (h : Sl w B sz (.slice A n c) n xs) (hk : k ≤ n) : Sl w B sz (.slice (cutA A c 0 sz) k c) k (xs.take (k * sz)) := by
  obtain ⟨A', c', hv, hnc, hcm, hl, hx⟩ := h
  injection hv with e1 e2 e3
  subst e1 e3
  refine ⟨_, _, rfl, by omega, by omega, by rw [List.length_take, hl]; exact Nat.min_eq_left (Nat.mul_le_mul_right _ hk), fun h0 => ?_⟩
  obtain ⟨b, o, rfl, hb, hc⟩ := hx (by omega)
  refine ⟨b, o, by unfold cutA; rw [if_neg (by omega)]; simp [Addr.add_lit], hb, fun j u hu => ?_⟩
  rw [List.getElem?_take] at hu
  split at hu
  · exact hc _ u hu
  · cases hu
theorem sizeOf_of {t e : TypeId} {z : Value} {sz by_ : Nat} (hT : SlT t e z sz by_) (w : World) : (sizeOf e).run Try.prog w = .ok sz w := by
  obtain ⟨hu, ⟨i, hi, hz, hsz, hby⟩, hzs, h0, h0b⟩ := hT
  simp [sizeOf, typeInfo, hi, hsz]
theorem elem_of {t e : TypeId} {z : Value} {sz by_ : Nat} (hT : SlT t e z sz by_) : Try.prog.elem t = e := by
  obtain ⟨hu, -⟩ := hT
  simp [Program.elem, hu]
theorem und_of {t e : TypeId} {z : Value} {sz by_ : Nat} (hT : SlT t e z sz by_) : Try.prog.underlying t = some (.slice (Try.prog.elem t)) := by
  rw [elem_of hT]; exact hT.1
theorem run_take_of {t e : TypeId} {z : Value} {sz by_ : Nat} (hT : SlT t e z sz by_) (A : Option Addr) (n c k : Nat) (hk : k ≤ c) (w : World) :
    (Instr.slice t (.slice A n c) none (some (.int .i64 (k : Int))) none).run Try.prog w = .ok (.slice (cutA A c 0 sz) k c) w := by
  rw [run_slice_h (P := Try.prog) w t A n c (und_of hT) .i64 (k : Int) (by omega) (by omega), elem_of hT, sizeOf_of hT]
  simp only [Result.andThen_ok, sliced, cutA, Int.toNat_natCast, Nat.sub_zero]
theorem run_drop_of {t e : TypeId} {z : Value} {sz by_ : Nat} (hT : SlT t e z sz by_) (A : Option Addr) (n c k : Nat) (hk : k ≤ n) (w : World) :
    (Instr.slice t (.slice A n c) (some (.int .i64 (k : Int))) none none).run Try.prog w = .ok (.slice (cutA A c k sz) (n - k) (c - k)) w := by
  rw [run_slice_l (P := Try.prog) w t A n c (und_of hT) .i64 (k : Int) (by omega) (by omega), elem_of hT, sizeOf_of hT]
  simp only [Result.andThen_ok, sliced, cutA, Int.toNat_natCast]
theorem uks_take (l : List Int) (k : Nat) : (uks l).take (k * 1) = uks (l.take k) := by simp [uks, List.map_take]
theorem uks_drop (l : List Int) (k : Nat) : (uks l).drop (k * 1) = uks (l.drop k) := by simp [uks, List.map_drop]
set_option maxRecDepth 100000 in
set_option maxHeartbeats 8000000 in
theorem rkeys_is {v : Value} {n : Nat} {l : List (Bool × Int)} {w : World} (hs : Sl w w.heap.size 2 v n (sls l)) (ho : Vt.Ok l) (ks : List Int) (m : Nat) (hk : ksP l = ks) (hm : ks.length = m) :
    Calls Try.prog 22 #[v] w (KsPost w ks m) := by
  have hl : l.length = n := by have := hs.len; rw [len_sls] at this; omega
  obtain ⟨A, c, rfl, hnc, hcm, hll, hx⟩ := hs
  have HX := hid hx
  have HL := hid hl
  have HO := hid ho.2.2
  have hn2 : n ≤ 1024 := by have := ho.2.1; omega
  have HE : Hid (∀ d, Vt.keyed (l.take n) = some d → Vt.ks d = ks) := hid (fun d hd => by
    rw [List.take_of_length_le (by omega)] at hd
    have : kd l = some d := by unfold kd; rw [if_pos ⟨ho.1, ho.2.1⟩]; exact hd
    rw [← hk]; unfold ksP; rw [this]; rfl)
  have HM := hid hm
  clear hx hll hl hcm hk hm ho hnc
  go_enter Try.func22, Try.ntmps22
  go_wp2_with fail
  go_loopw [3, 4, 5, 6] (fun ov iv _ _ wr => ∃ (i q : Nat) (d : List (Int × Int)), iv = .int .i64 (i : Int) ∧ i ≤ n ∧ Hid (Vt.keyed (l.take i) = some d) ∧ Hid (Dc.Srt d) ∧ d.length = q ∧ q ≤ i ∧ Sl wr wr.heap.size 1 ov q (uks (Vt.ks d)) ∧ Below w.heap.size w wr) (fun _ iv _ _ _ => n - (intOf iv).toNat)
  case atStart => exact ⟨0, 0, [], rfl, Nat.zero_le _, hid rfl, hid List.Pairwise.nil, rfl, Nat.le_refl _, Sl.none_ _ _ _, Below.refl _ _⟩
  case round =>
    obtain ⟨i, q, d, rfl, hi, HK, HS, hdq, hqi, hsl, hbel⟩ := hrel
    obtain ⟨w1, rfl⟩ : ∃ x, x = wr := ⟨wr, rfl⟩
    have HQ := hid hdq
    have HSL := hid hsl
    have HB := hid hbel
    clear hdq hsl hbel
    by_cases hlt : i < n
    · have i0 : (i : Int) < (n : Int) := by omega
      have i1 : (0 : Int) ≤ (i : Int) := by omega
      have hil : i < l.length := by rw [HL.out]; exact hlt
      obtain ⟨b6, o6, rfl, hb6, hc6⟩ := HX.out (by omega)
      obtain ⟨p0, p1⟩ := sls_cell hc6 hil
      have c0 := (HB.out.cell (p := ⟨b6, o6 + i * 2, none⟩) hb6).trans p0
      have c1 := (HB.out.cell (p := ⟨b6, o6 + i * 2 + 1, none⟩) hb6).trans p1
      have hst := Vt.keyed_step HO.out hil HK.out
      obtain ⟨u, hu⟩ : ∃ u, u = l[i].1 := ⟨_, rfl⟩
      obtain ⟨k, hk⟩ : ∃ k, k = l[i].2 := ⟨_, rfl⟩
      rw [← hu] at c0
      rw [← hk] at c1
      have hst' : (u = false ∧ Vt.keyed (l.take (i + 1)) = some d) ∨ (u = true ∧ Dc.get d k = none ∧ Vt.keyed (l.take (i + 1)) = some (Dc.put d k (i : Int))) := by rw [hu, hk]; exact hst
      clear hst hu hk p0 p1 hc6 hil
      cases u with
      | false =>
        have HN : Hid (Vt.keyed (l.take (i + 1)) = some d) := hid (by rcases hst' with ⟨-, h⟩ | ⟨h, -⟩; exact h; cases h)
        clear hst' c1
        go_wp2_with fail
        go_roundw
        case rel => exact ⟨i + 1, q, d, by go_num, by omega, HN, HS, HQ.out, by omega, HSL.out, HB.out⟩
        case measure => simp [intOf]; omega
      | true =>
        have hgn : Dc.get d k = none ∧ Vt.keyed (l.take (i + 1)) = some (Dc.put d k (i : Int)) := by rcases hst' with ⟨h, -⟩ | ⟨-, h⟩; cases h; exact h
        have HN := hid hgn.2
        obtain ⟨at_, hat⟩ : ∃ a, a = Dc.less d k := ⟨_, rfl⟩
        have hle : at_ ≤ q := by rw [hat, ← HQ.out]; exact Dc.less_le _ _
        have HP : Hid (Vt.ks (Dc.put d k (i : Int)) = (Vt.ks d).take at_ ++ [k] ++ (Vt.ks d).drop at_) := hid (by rw [hat]; exact Vt.ks_put HS.out hgn.1 _)
        have HLS : Hid (∀ p, p < q → ((Vt.ks d).getD p 0 < k ↔ p < at_)) := hid (fun p hp => by rw [hat]; exact Vt.ks_less HS.out k (by rw [HQ.out]; exact hp))
        have HSP := hid (Dc.srt_put HS.out k (i : Int))
        have HLP : Hid ((Dc.put d k (i : Int)).length = q + 1) := hid (by rw [Dc.len_put_new HS.out _ _ hgn.1, HQ.out])
        have HKL : Hid ((Vt.ks d).length = q) := hid (by rw [Vt.ks_len, HQ.out])
        clear hst' hgn hat
        obtain ⟨A3, c3, rfl, hqc, hcm3, hl3, hx3⟩ := HSL.out
        have HX3 := hid hx3
        have HQC := hid hqc
        clear hx3 hl3 hcm3 hqc
        have C1 := hid c1
        clear c1
        go_wp2_with fail
        go_loopw [5] (fun jv wr2 => ∃ p : Nat, jv = .int .i64 (p : Int) ∧ p ≤ at_ ∧ Qt w1 wr2) (fun jv _ => at_ - (intOf jv).toNat)
        case atStart => exact ⟨0, rfl, Nat.zero_le _, Qt.refl _⟩
        case round =>
          clear c0
          obtain ⟨p, rfl, hp, hq⟩ := hrel
          have hil : i < l.length := by rw [HL.out]; exact hlt
          have c1' : w1.cell? ⟨b6, o6 + i * 2 + 1, none⟩ = some (.int .u64 k) := C1.out
          have d1 := (hq.cell ⟨b6, o6 + i * 2 + 1, none⟩).trans c1'
          have j0 : (0 : Int) ≤ (p : Int) := by omega
          by_cases hpq : p < q
          · have j1 : (p : Int) < (q : Int) := by omega
            obtain ⟨b3, o3, rfl, hb3, hc3⟩ := HX3.out (by omega)
            have d3 := (hq.cell ⟨b3, o3 + p, none⟩).trans (uks_cell hc3 (by rw [HKL.out]; exact hpq))
            have hls := HLS.out p hpq
            generalize (Vt.ks d).getD p 0 = y at *
            clear hc3 hil c1'
            by_cases hpa : p < at_
            · have e1 := hls.2 hpa
              clear hls
              go_wp2_with fail
              go_quiet (fail)
              go_wp2
              go_roundw
              case rel => exact ⟨p + 1, by go_num, by omega, hq.drewN _⟩
              case measure => simp [intOf]; omega
            · have e1 : ¬ y < k := fun h => hpa (hls.1 h)
              clear hls
              go_wp2_with fail
              have e2 : k ≤ y := by omega
              go_quiet (fail)
              obtain rfl : p = at_ := by omega
              have hq2 : Qt w1 (wr.drewN nq) := hq.drewN _
              obtain ⟨wq, hwq⟩ : ∃ x, x = wr.drewN nq := ⟨_, rfl⟩
              have hT : ∀ w : World, (Instr.slice 39 (.slice (some ⟨b3, o3, none⟩) q c3) none (some (.int .i64 (p : Int))) none).run Try.prog w = .ok (.slice (cutA (some ⟨b3, o3, none⟩) c3 0 1) p c3) w := fun w => run_take_of Tuks (some ⟨b3, o3, none⟩) q c3 p (by have := HQC.out; omega) w
              have hD : ∀ w : World, (Instr.slice 39 (.slice (some ⟨b3, o3, none⟩) q c3) (some (.int .i64 (p : Int))) none none).run Try.prog w = .ok (.slice (cutA (some ⟨b3, o3, none⟩) c3 p 1) (q - p) (c3 - p)) w := fun w => run_drop_of Tuks (some ⟨b3, o3, none⟩) q c3 p hle w
              have SB : Sl wq wq.heap.size 1 (.slice (some ⟨b3, o3, none⟩) q c3) q (uks (Vt.ks d)) := by rw [hwq]; exact HSL.out.cqt hq2
              have S1 : Hid (Sl wq wq.heap.size 1 (.slice (cutA (some ⟨b3, o3, none⟩) c3 0 1) p c3) p (uks ((Vt.ks d).take p))) := hid (by rw [← uks_take]; exact SB.take hle)
              have S2 : Hid (Sl wq wq.heap.size 1 (.slice (cutA (some ⟨b3, o3, none⟩) c3 p 1) (q - p) (c3 - p)) (q - p) (uks ((Vt.ks d).drop p))) := hid (by rw [← uks_drop]; exact SB.drop hle)
              have k1 : wq.cell? ⟨b6, o6 + i * 2 + 1, none⟩ = some (.int .u64 k) := by rw [hwq]; exact (hq2.cell _).trans C1.out
              have hb6q : b6 < wq.heap.size := by rw [hwq]; have h1 := HB.out.size; have h2 := hq2.size; omega
              have HB2 : Hid (Below w.heap.size w wq) := hid (by rw [hwq]; exact Bl.qt HB.out hq2)
              have K1 := hid k1
              have HWQ := hid hwq
              clear SB hq2 hwq d1 k1
              go_wp2_with (at_builtin; (try rw [← HWQ.out]); refine wl_app (base := wq.heap.size) rfl _ _ Tuks rfl rfl (World.ownsRow_nil _ _ _ _) rfl S1.out (uks_one _) (by omega) (Nat.le_refl _) ?_)
              intro v4 w4 o4 b4
              have k4 : w4.cell? ⟨b6, o6 + i * 2 + 1, none⟩ = some (.int .u64 k) := (b4.cell (p := ⟨b6, o6 + i * 2 + 1, none⟩) hb6q).trans K1.out
              have B4 := hid b4
              have O4 := hid o4
              have HZ4 := hid b4.size
              clear b4 o4
              go_wp2_with (at_builtin; refine wl_app1 rfl _ _ Tuks rfl (news := [.int .u64 k]) rfl O4.out rfl rfl (uks_one [k]) (by omega) HZ4.out ?_)
              intro v5 w5 o5 b5
              have S5 := hid ((S2.out.below B4.out (Nat.le_refl _)).below b5 (Nat.le_refl _))
              have B5 := hid (B4.out.trans b5)
              have O5 := hid o5
              have HZ5 := hid B5.out.size
              clear b5 o5 k4
              go_wp2_with (at_builtin; refine wl_app rfl _ _ Tuks rfl rfl O5.out rfl S5.out (uks_one _) (by omega) HZ5.out ?_)
              intro v6 w6 o6' b6'
              have B6 := hid (B5.out.trans b6')
              have O6 := hid o6'
              clear b6' o6'
              go_wp2
              go_roundw
              case rel =>
                refine ⟨i + 1, q + 1, Dc.put d k (i : Int), by go_num, by omega, HN, HSP, HLP.out, by omega, ?_, HB2.out.trans (B6.out.mono HB2.out.size)⟩
                have := Sl.of_own O6.out
                rw [HP.out, ← uks_app, ← uks_app]
                rw [show p + 1 + (q - p) = q + 1 by omega] at this
                rw [show uks ((Vt.ks d).take p) ++ uks [k] ++ uks ((Vt.ks d).drop p) = uks ((Vt.ks d).take p) ++ Value.int IntKind.u64 k :: uks ((Vt.ks d).drop p) by simp [uks]]
                exact this
              case measure => simp [intOf]; omega
          · have j1 : ¬ (p : Int) < (q : Int) := by omega
            clear c1' hil
            go_wp2_with fail
            go_quiet (fail)
            obtain rfl : p = at_ := by omega
            have hq2 : Qt w1 (wr.drewN nq) := hq.drewN _
            obtain ⟨wq, hwq⟩ : ∃ x, x = wr.drewN nq := ⟨_, rfl⟩
            have hT : ∀ w : World, (Instr.slice 39 (.slice A3 q c3) none (some (.int .i64 (p : Int))) none).run Try.prog w = .ok (.slice (cutA A3 c3 0 1) p c3) w := fun w => run_take_of Tuks A3 q c3 p (by have := HQC.out; omega) w
            have hD : ∀ w : World, (Instr.slice 39 (.slice A3 q c3) (some (.int .i64 (p : Int))) none none).run Try.prog w = .ok (.slice (cutA A3 c3 p 1) (q - p) (c3 - p)) w := fun w => run_drop_of Tuks A3 q c3 p hle w
            have SB : Sl wq wq.heap.size 1 (.slice A3 q c3) q (uks (Vt.ks d)) := by rw [hwq]; exact HSL.out.cqt hq2
            have S1 : Hid (Sl wq wq.heap.size 1 (.slice (cutA A3 c3 0 1) p c3) p (uks ((Vt.ks d).take p))) := hid (by rw [← uks_take]; exact SB.take hle)
            have S2 : Hid (Sl wq wq.heap.size 1 (.slice (cutA A3 c3 p 1) (q - p) (c3 - p)) (q - p) (uks ((Vt.ks d).drop p))) := hid (by rw [← uks_drop]; exact SB.drop hle)
            have k1 : wq.cell? ⟨b6, o6 + i * 2 + 1, none⟩ = some (.int .u64 k) := by rw [hwq]; exact (hq2.cell _).trans C1.out
            have hb6q : b6 < wq.heap.size := by rw [hwq]; have h1 := HB.out.size; have h2 := hq2.size; omega
            have HB2 : Hid (Below w.heap.size w wq) := hid (by rw [hwq]; exact Bl.qt HB.out hq2)
            have K1 := hid k1
            have HWQ := hid hwq
            clear SB hq2 hwq k1
            go_wp2_with (at_builtin; (try rw [← HWQ.out]); refine wl_app (base := wq.heap.size) rfl _ _ Tuks rfl rfl (World.ownsRow_nil _ _ _ _) rfl S1.out (uks_one _) (by omega) (Nat.le_refl _) ?_)
            intro v4 w4 o4 b4
            have k4 : w4.cell? ⟨b6, o6 + i * 2 + 1, none⟩ = some (.int .u64 k) := (b4.cell (p := ⟨b6, o6 + i * 2 + 1, none⟩) hb6q).trans K1.out
            have B4 := hid b4
            have O4 := hid o4
            have HZ4 := hid b4.size
            clear b4 o4
            go_wp2_with (at_builtin; refine wl_app1 rfl _ _ Tuks rfl (news := [.int .u64 k]) rfl O4.out rfl rfl (uks_one [k]) (by omega) HZ4.out ?_)
            intro v5 w5 o5 b5
            have S5 := hid ((S2.out.below B4.out (Nat.le_refl _)).below b5 (Nat.le_refl _))
            have B5 := hid (B4.out.trans b5)
            have O5 := hid o5
            have HZ5 := hid B5.out.size
            clear b5 o5 k4
            go_wp2_with (at_builtin; refine wl_app rfl _ _ Tuks rfl rfl O5.out rfl S5.out (uks_one _) (by omega) HZ5.out ?_)
            intro v6 w6 o6' b6'
            have B6 := hid (B5.out.trans b6')
            have O6 := hid o6'
            clear b6' o6'
            go_wp2
            go_roundw
            case rel =>
              refine ⟨i + 1, q + 1, Dc.put d k (i : Int), by go_num, by omega, HN, HSP, HLP.out, by omega, ?_, HB2.out.trans (B6.out.mono HB2.out.size)⟩
              have := Sl.of_own O6.out
              rw [HP.out, ← uks_app, ← uks_app]
              rw [show p + 1 + (q - p) = q + 1 by omega] at this
              rw [show uks ((Vt.ks d).take p) ++ uks [k] ++ uks ((Vt.ks d).drop p) = uks ((Vt.ks d).take p) ++ Value.int IntKind.u64 k :: uks ((Vt.ks d).drop p) by simp [uks]]
              exact this
            case measure => simp [intOf]; omega
    · have i0 : ¬ (i : Int) < (n : Int) := by omega
      obtain rfl : i = n := by omega
      have HF := hid (HE.out d HK.out)
      have HQM : Hid (q = m) := hid (by rw [← HM.out, ← HF.out, Vt.ks_len, HQ.out])
      go_wp2
      go_ret
      exact ⟨_, rfl, by have := HSL.out; rw [HF.out, HQM.out] at this; exact this, HB.out⟩
end Go.Proofs.Ytcbedngimgkcoaa
