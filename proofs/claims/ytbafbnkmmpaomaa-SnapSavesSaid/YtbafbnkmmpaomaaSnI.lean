/- Contract of snap.Save, of a state. -/
import Derived.Test.YtbafbnkmmpaomaaSnH
import Derived.Lib.SlBytesConst
namespace Go.Proofs.Ytbafbnkmmpaomaa
open Go.RowKit
set_option linter.unusedVariables false
set_option linter.unusedSimpArgs false
attribute [local go_sem ↓] Go.wp_at_zero Go.wp_at_succ
def SavePost (w : World) (l : Sn.By) (e : Ending) (w' : World) : Prop := e = .returned (.tuple #[.string (str l), .int .i64 0]) ∧ Below w.heap.size w w'
theorem rdy_own {w : World} {base n : Nat} {v : Value} {l : Sn.By} (h : w.ownsRow base 5 1 v n (bys l)) : Rdy w base v n l := .inl h
theorem rdy_ne {w : World} {base n : Nat} {v : Value} {l : Sn.By} (h : Rdy w base v n l) : some w.heap.size ≠ v.ownBlock := by
  rcases h with h | ⟨b, rfl, hl, hlt, hc⟩
  · exact own_ne h
  · intro e
    simp [Value.ownBlock] at e
    omega
theorem rdy_alloc {w : World} {base n : Nat} {v : Value} {l : Sn.By} (h : Rdy w base v n l) (o : Obj) : Rdy (w.alloc o) base v n l := by
  rcases h with h | ⟨b, rfl, hl, hlt, hc⟩
  · exact .inl (h.alloc o)
  · exact .inr ⟨b, rfl, hl, by simp; omega, fun j u hu => cell_later (bel_new w o) (hc j u hu)⟩
theorem bys_mark : bys Sn.mark = [.int .u8 82, .int .u8 65, .int .u8 70, .int .u8 84] := rfl
theorem zs_at {N L R : Int} {j : Nat} (h : j < 3) (hz : GSz N L R) : ∃ z : Nat, ([N, L, R] : List Int).getD j 0 = (z : Int) ∧ z ≤ 1024 := by
  obtain ⟨a, b, c, d, e, f⟩ := hz
  match j, h with
  | 0, _ => exact ⟨N.toNat, by simp; omega, by omega⟩
  | 1, _ => exact ⟨L.toNat, by simp; omega, by omega⟩
  | 2, _ => exact ⟨R.toNat, by simp; omega, by omega⟩
theorem encI_nat (z k : Nat) : Sn.encI (z : Int) k = Sn.enc z k := by simp [Sn.encI]
set_option maxRecDepth 100000 in
set_option maxHeartbeats 32000000 in
theorem save_any {s : Sn.St} {vh ve vs : Value} {nh ne ns : Nat} {w : World} (h1 : Sl w w.heap.size 2 vh nh (hcz s.hs)) (h2 : Sl w w.heap.size 3 ve ne (eds s.es)) (h3 : Sl w w.heap.size 2 vs ns (sls s.ss)) (hn : ne ≤ 100000) (hr : SRS s) (hw : Wide s) :
    Calls Try.prog 13 #[stV s.N s.L s.R vh ve vs] w (SavePost w (Sn.save s)) := by
  obtain ⟨N, L, R, hs, es, ss⟩ := s
  dsimp only at h1 h2 h3 ⊢
  obtain ⟨s0, hs0⟩ : ∃ s0 : Sn.St, s0 = { N := N, L := L, R := R, hs := hs, es := es, ss := ss } := ⟨_, rfl⟩
  have HS0 := hid hs0
  rw [← hs0]
  clear hs0
  have hl1 : hs.length = nh := by have := h1.len; rw [len_hcz] at this; omega
  have hl2 : es.length = ne := by have := h2.len; rw [len_eds] at this; omega
  have hl3 : ss.length = ns := by have := h3.len; rw [len_sls] at this; omega
  have S1 := hid h1
  have S2 := hid h2
  have S3 := hid h3
  obtain ⟨A1, c1, rfl, -, -, -, hx1⟩ := h1
  obtain ⟨A2, c2, rfl, -, -, -, hx2⟩ := h2
  obtain ⟨A3, c3, rfl, -, -, -, hx3⟩ := h3
  have HR := hid hr
  have HW := hid hw
  have HL1 := hid hl1
  have HL2 := hid hl2
  have HL3 := hid hl3
  have HX1 := hid hx1
  have HX2 := hid hx2
  have HX3 := hid hx3
  have hok := ok_srs hr hw (by rw [hl2]; exact hn)
  have HOK := hid hok
  obtain ⟨n0, n1, l0, l1, r0, r1⟩ : GSz N L R := hr.1.1
  have HSZ : Hid (GSz N L R) := hid ⟨n0, n1, l0, l1, r0, r1⟩
  have hns : (ns : Int) = N := by rw [← hl3]; exact hr.2.2.1
  have hnh : nh ≤ 128 := by
    have e1 : (nh : Int) = L * R := by rw [← hl1]; exact hr.1.2.1
    have e2 : L * R ≤ 16 * 8 := Int.mul_le_mul l1 r1 (by omega) (by omega)
    omega
  have HM : Hid (nh ≤ 128 ∧ ns ≤ 1024 ∧ ne ≤ 100000) := hid ⟨hnh, by omega, hn⟩
  have HRD : Hid (SR N L R hs es ss) := hid hr
  have hn6 : ne ≤ 1000000 := by omega
  clear hx1 hx2 hx3 hl1 hl2 hl3 hr hw hok
  unfold stV
  obtain ⟨w1, hw1⟩ : ∃ W, W = w.alloc (.cells #[.int .i64 N, .int .i64 L, .int .i64 R, .slice A1 nh c1, .slice A2 ne c2, .slice A3 ns c3] 30) := ⟨_, rfl⟩
  obtain ⟨KS, hKS⟩ : ∃ K, K = w.heap.size := ⟨_, rfl⟩
  have b1 : Below w.heap.size w w1 := by rw [hw1]; exact bel_new _ _
  have HB1 := hid b1
  have DS : Hid (Blk w1 KS 30 [.int .i64 N, .int .i64 L, .int .i64 R, .slice A1 nh c1, .slice A2 ne c2, .slice A3 ns c3]) := hid (by rw [hw1, hKS]; exact Blk.new _ _ _)
  have T1 := hid (S1.out.call b1)
  have T2 := hid (S2.out.call b1)
  have T3 := hid (S3.out.call b1)
  have HW1 := hid hw1
  have HK := hid hKS
  clear hw1 hKS b1 S1 S2 S3
  go_enter Try.func13, Try.ntmps13
  go_wp2_with fail
  rw [← HW1.out, ← HK.out]
  refine (sr_any T1.out T2.out T3.out hn6 true ⟨fun _ => rfl, fun _ => HRD.out⟩).mono ?_; rintro e w3 ⟨rfl, b3⟩
  have HB3 := hid (Bl.call HB1.out b3)
  have DS3 := hid (DS.out.below b3 DS.out.lt)
  have HKS := hid DS3.out.lt
  clear b3
  have HCV : (convert 50 50 (.slice (some ⟨w3.heap.size + 1, 0, none⟩) 4 4)).run Try.prog ((w3.alloc (.cells #[.int .i64 N, .int .i64 L, .int .i64 R] 23)).alloc (.cells #[.int .u8 82, .int .u8 65, .int .u8 70, .int .u8 84] 5)) = .ok (.slice (some ⟨w3.heap.size + 1, 0, none⟩) 4 4) ((w3.alloc (.cells #[.int .i64 N, .int .i64 L, .int .i64 R] 23)).alloc (.cells #[.int .u8 82, .int .u8 65, .int .u8 70, .int .u8 84] 5 (4, 5))) := by
    have e : (w3.alloc (.cells #[.int .i64 N, .int .i64 L, .int .i64 R] 23)).heap.size = w3.heap.size + 1 := by simp
    have h := Lib.run_convert_bytes_const (P := Try.prog) (w3.alloc (.cells #[.int .i64 N, .int .i64 L, .int .i64 R] 23)) 50 5 #[.int .u8 82, .int .u8 65, .int .u8 70, .int .u8 84] 4 4 Try.underlying50 (by kernel_rfl)
    rw [e] at h
    exact h
  have x0 := DS3.out.cell 0
  have x1 := DS3.out.cell 1
  have x2 := DS3.out.cell 2
  go_wp2_with fail
  obtain ⟨w6, hw6⟩ : ∃ W, W = (((w3.alloc (.cells #[.int .i64 N, .int .i64 L, .int .i64 R] 23)).alloc (.cells #[.int .u8 82, .int .u8 65, .int .u8 70, .int .u8 84] 5 (4, 5))).alloc (.cells #[.int .i64 N, .int .i64 L, .int .i64 R] 3)) := ⟨_, rfl⟩
  obtain ⟨KB, hKB⟩ : ∃ K, K = w3.heap.size + 1 := ⟨_, rfl⟩
  obtain ⟨KI, hKI⟩ : ∃ K, K = w3.heap.size + 2 := ⟨_, rfl⟩
  have HB : Hid (Below w3.heap.size w3 w6) := hid (by rw [hw6]; exact Bl.new (Bl.new (bel_new _ _) _) _)
  have dB : ∀ (j : Nat) (u : Value), (bys Sn.mark)[j]? = some u → w6.cell? ⟨KB, j, none⟩ = some u := fun j u hu => by
    have e : (w3.alloc (.cells #[.int .i64 N, .int .i64 L, .int .i64 R] 23)).heap.size = w3.heap.size + 1 := by simp
    have h := World.cell?_alloc_mark (w3.alloc (.cells #[.int .i64 N, .int .i64 L, .int .i64 R] 23)) #[.int .u8 82, .int .u8 65, .int .u8 70, .int .u8 84] 5 (4, 5) j
    rw [e] at h
    rw [hw6, hKB]
    refine cell_later (bel_new _ _) (h.trans ?_)
    rw [bys_mark] at hu
    simpa using hu
  have DI : Hid (Blk w6 KI 3 (ints [N, L, R])) := hid (by
    rw [hw6, hKI]
    have := Blk.new ((w3.alloc (.cells #[.int .i64 N, .int .i64 L, .int .i64 R] 23)).alloc (.cells #[.int .u8 82, .int .u8 65, .int .u8 70, .int .u8 84] 5 (4, 5))) 3 [.int .i64 N, .int .i64 L, .int .i64 R]
    have e : ((w3.alloc (.cells #[.int .i64 N, .int .i64 L, .int .i64 R] 23)).alloc (.cells #[.int .u8 82, .int .u8 65, .int .u8 70, .int .u8 84] 5 (4, 5))).heap.size = w3.heap.size + 2 := by simp
    rw [e] at this
    exact this)
  have O : Hid (Rdy w6 w3.heap.size (.slice (some ⟨KB, 0, none⟩) 4 4) 4 Sn.mark) := hid (.inr ⟨KB, rfl, rfl, by rw [hKB, hw6]; simp <;> omega, dB⟩)
  have NI : Hid (some KI ≠ (Value.slice (some ⟨KB, 0, none⟩) 4 4).ownBlock) := hid (by rw [hKI, hKB]; simp [Value.ownBlock])
  have hKI2 : KI = KB + 1 := by omega
  rw [← hw6, ← hKB, ← hKI2]
  clear hKI2 HCV
  clear hw6 hKB hKI dB x0 x1 x2 T1 T2 T3
  go_loopw [5, 31] (fun bv iv wr => ∃ j : Nat, iv = .int .i64 (j : Int) ∧ j ≤ 3 ∧ Hid (Rdy wr w3.heap.size bv (4 + 2 * j) (Sn.mark ++ (([N, L, R] : List Int).take j).flatMap fun z => Sn.encI z 2)) ∧ Hid (Blk wr KI 3 (ints [N, L, R])) ∧ Hid (some KI ≠ bv.ownBlock) ∧ Hid (Below w3.heap.size w3 wr)) (fun _ iv _ => 3 - (intOf iv).toNat)
  case atStart => exact ⟨0, rfl, Nat.zero_le _, hid (O.out.cast rfl (by simp)), DI, NI, HB⟩
  case round =>
    clear O DI NI HB
    obtain ⟨j, rfl, hj, O, DI, NI, HB⟩ := hrel
    by_cases hlt : j < 3
    case pos =>
      have j0 : (j : Int) < 3 := by omega
      obtain ⟨z, hz, hz2⟩ := zs_at hlt HSZ.out
      have q0 := (DI.out.cell j).trans (ints_at [N, L, R] j hlt)
      rw [hz] at q0
      have HZ := hid hz
      have HT := hid (flat_take (fun z => Sn.encI z 2) ([N, L, R] : List Int) (i := j) hlt)
      have HG : Hid (([N, L, R] : List Int)[j] = (z : Int)) := hid (by rw [← hz]; simp [List.getD, hlt])
      clear hz
      go_wp2_with fail
      refine (bput_any (n := z) (k := 2) O.out (by omega) (by decide) (by decide) (by omega) HB.out.size).mono ?_; rintro e w7 ⟨v7, rfl, o_, g_, b_⟩
      have LT_ := DI.out.lt
      replace DI := hid (g_.blk DI.out NI.out)
      replace NI := hid (g_.ne LT_ NI.out)
      clear LT_
      replace HB := hid (HB.out.trans b_)
      replace O := hid (rdy_own o_)
      clear o_ g_ b_
      have O9 : Hid (Rdy w7 w3.heap.size v7 (4 + 2 * (j + 1)) (Sn.mark ++ (([N, L, R] : List Int).take (j + 1)).flatMap fun z => Sn.encI z 2)) := hid (O.out.cast (by omega) (by rw [HT.out, HG.out, encI_nat, List.append_assoc]))
      clear q0
      go_wp2_with fail
      go_roundw
      case rel => exact ⟨j + 1, by go_num, by omega, O9, DI, NI, HB⟩
      case measure => simp [intOf]; omega
    case neg =>
      obtain rfl : j = 3 := by omega
      have j0 : ¬ (3 : Int) < 3 := by omega
      have O1 := hid (O.out.cast (l' := Sn.head s0) (n' := 10) rfl (by rw [HS0.out]; simp [Sn.head, Sn.mark]))
      have HKSw := HKS
      have x3 := (HB.out.cell (p := ⟨KS, 3, none⟩) HKS.out).trans (DS3.out.cell 3)
      clear DI NI O
      go_wp2_with fail
      go_loopw [5, 44] (fun bv iv wr => ∃ i : Nat, iv = .int .i64 (i : Int) ∧ i ≤ nh ∧ Hid (Rdy wr w3.heap.size bv (10 + 16 * i) (Sn.head s0 ++ (hs.take i).flatMap Sn.hB)) ∧ Hid (Below w3.heap.size w3 wr)) (fun _ iv _ => nh - (intOf iv).toNat)
      case atStart => exact ⟨0, rfl, Nat.zero_le _, hid (O1.out.cast rfl (by simp)), HB⟩
      case round =>
        clear O1 HB x3
        obtain ⟨i, rfl, hi, O, HB⟩ := hrel
        obtain ⟨wa, rfl⟩ : ∃ x, x = wr := ⟨wr, rfl⟩
        by_cases hlt : i < nh
        case pos =>
          have j0 : (i : Int) < (nh : Int) := by omega
          have hil : i < hs.length := by rw [HL1.out]; exact hlt
          obtain ⟨b6, o6, rfl, hb6, hc6⟩ := HX1.out (by omega)
          have hb7 := Nat.lt_of_lt_of_le hb6 HB3.out.size
          obtain ⟨p0, p1⟩ := hcz_cell hc6 hil
          have q0 := (HB.out.cell (p := ⟨b6, o6 + i * 2, none⟩) hb7).trans ((HB3.out.cell (p := ⟨b6, o6 + i * 2, none⟩) hb6).trans p0)
          have q1 := (HB.out.cell (p := ⟨b6, o6 + i * 2 + 1, none⟩) hb7).trans ((HB3.out.cell (p := ⟨b6, o6 + i * 2 + 1, none⟩) hb6).trans p1)
          have hbd := HOK.out.hb i hil
          have HT := hid (flat_take Sn.hB hs hil)
          obtain ⟨e, he⟩ : ∃ e, e = hs[i] := ⟨_, rfl⟩
          rw [← he] at q0 q1 HT
          dsimp only at hbd
          rw [← he] at hbd
          obtain ⟨x, y⟩ := e
          dsimp only at q0 q1 hbd
          obtain ⟨⟨d0, d1⟩, d2, d3⟩ := hbd
          obtain ⟨x, rfl⟩ := Int.eq_ofNat_of_zero_le d0
          obtain ⟨y, rfl⟩ := Int.eq_ofNat_of_zero_le d2
          have HXY : Hid (x < 18446744073709551616 ∧ y < 18446744073709551616) := hid (by omega)
          have HE : Hid (Sn.hB ((x : Int), (y : Int)) = Sn.enc x 8 ++ Sn.enc y 8) := hid (by simp [Sn.hB, encI_nat])
          clear he p0 p1 hc6 hil d0 d1 d2 d3
          obtain ⟨KH, hKH⟩ : ∃ K, K = wa.heap.size := ⟨_, rfl⟩
          obtain ⟨wh, hwh⟩ : ∃ W, W = wa.alloc (.cells #[.int .u64 (x : Int), .int .u64 (y : Int)] 59) := ⟨_, rfl⟩
          have DH : Hid (Blk wh KH 59 [.int .u64 (x : Int), .int .u64 (y : Int)]) := hid (by rw [hwh, hKH]; exact Blk.new _ _ _)
          have NH : Hid (some KH ≠ u5.ownBlock) := hid (by rw [hKH]; exact rdy_ne O.out)
          replace O : Hid (Rdy wh w3.heap.size u5 (10 + 16 * i) (Sn.head s0 ++ (hs.take i).flatMap Sn.hB)) := hid (by rw [hwh]; exact rdy_alloc O.out _)
          replace HB : Hid (Below w3.heap.size w3 wh) := hid (by rw [hwh]; exact Bl.new HB.out _)
          have HWH := hid hwh
          have HKH := hid hKH
          clear hwh hKH
          go_wp2_with fail
          rw [← HWH.out, ← HKH.out]
          refine (bput_any (n := x) (k := 8) O.out (HXY.out.1) (by decide) (by decide) (by have := HM.out; omega) HB.out.size).mono ?_; rintro e w7 ⟨v7, rfl, o_, g_, b_⟩
          have LT_ := DH.out.lt
          replace DH := hid (g_.blk DH.out NH.out)
          replace NH := hid (g_.ne LT_ NH.out)
          clear LT_
          replace HB := hid (HB.out.trans b_)
          replace O := hid (rdy_own o_)
          clear o_ g_ b_
          have k1 := DH.out.cell 1
          go_wp2_with fail
          refine (bput_any (n := y) (k := 8) O.out (HXY.out.2) (by decide) (by decide) (by have := HM.out; omega) HB.out.size).mono ?_; rintro e w8 ⟨v8, rfl, o_, g_, b_⟩
          have LT_ := DH.out.lt
          replace DH := hid (g_.blk DH.out NH.out)
          replace NH := hid (g_.ne LT_ NH.out)
          clear LT_
          replace HB := hid (HB.out.trans b_)
          replace O := hid (rdy_own o_)
          clear o_ g_ b_
          have O9 : Hid (Rdy w8 w3.heap.size v8 (10 + 16 * (i + 1)) (Sn.head s0 ++ (hs.take (i + 1)).flatMap Sn.hB)) := hid (O.out.cast (by omega) (by rw [HT.out, HE.out]; simp only [List.append_assoc]))
          clear k1 q0 q1
          go_wp2_with fail
          go_roundw
          case rel => exact ⟨i + 1, by go_num, by omega, O9, HB⟩
          case measure => simp [intOf]; omega
        case neg =>
          obtain rfl : i = nh := by omega
          have j0 : ¬ (i : Int) < (i : Int) := by omega
          have O2 := hid (O.out.cast (l' := Sn.head s0 ++ hs.flatMap Sn.hB) (n' := 10 + 16 * i) rfl (by rw [List.take_of_length_le (by rw [HL1.out]; exact Nat.le_refl _)]))
          have x5 := (HB.out.cell (p := ⟨KS, 5, none⟩) HKS.out).trans (DS3.out.cell 5)
          clear O
          go_wp2_with fail
          go_loopw [5, 60] (fun bv iv wr => ∃ q : Nat, iv = .int .i64 (q : Int) ∧ q ≤ ns ∧ Hid (Rdy wr w3.heap.size bv (10 + 16 * i + 9 * q) (Sn.head s0 ++ (hs.flatMap Sn.hB ++ (ss.take q).flatMap Sn.sB))) ∧ Hid (Below w3.heap.size w3 wr)) (fun _ iv _ => ns - (intOf iv).toNat)
          case atStart => exact ⟨0, rfl, Nat.zero_le _, hid (O2.out.cast rfl (by simp)), HB⟩
          case round =>
            clear O2 HB x5
            obtain ⟨q, rfl, hq, O, HB⟩ := hrel
            obtain ⟨wa, rfl⟩ : ∃ x, x = wr := ⟨wr, rfl⟩
            by_cases hlt : q < ns
            case pos =>
              have j0 : (q : Int) < (ns : Int) := by omega
              have hil : q < ss.length := by rw [HL3.out]; exact hlt
              obtain ⟨b6, o6, rfl, hb6, hc6⟩ := HX3.out (by omega)
              have hb7 := Nat.lt_of_lt_of_le hb6 HB3.out.size
              obtain ⟨p0, p1⟩ := sls_cell hc6 hil
              have q0 := (HB.out.cell (p := ⟨b6, o6 + q * 2, none⟩) hb7).trans ((HB3.out.cell (p := ⟨b6, o6 + q * 2, none⟩) hb6).trans p0)
              have q1 := (HB.out.cell (p := ⟨b6, o6 + q * 2 + 1, none⟩) hb7).trans ((HB3.out.cell (p := ⟨b6, o6 + q * 2 + 1, none⟩) hb6).trans p1)
              have hbd := HOK.out.sb q hil
              have HT := hid (flat_take Sn.sB ss hil)
              obtain ⟨e, he⟩ : ∃ e, e = ss[q] := ⟨_, rfl⟩
              rw [← he] at q0 q1 HT
              dsimp only at hbd
              rw [← he] at hbd
              obtain ⟨u, y⟩ := e
              dsimp only at q0 q1 hbd
              obtain ⟨d2, d3⟩ := hbd
              obtain ⟨y, rfl⟩ := Int.eq_ofNat_of_zero_le d2
              have HXY : Hid (y < 18446744073709551616) := hid (by omega)
              have HE : Hid (Sn.sB (u, (y : Int)) = Sn.enc (if u then 1 else 0) 1 ++ Sn.enc y 8) := hid (by simp [Sn.sB, encI_nat])
              clear he p0 p1 hc6 hil d2 d3
              obtain ⟨KH, hKH⟩ : ∃ K, K = wa.heap.size := ⟨_, rfl⟩
              obtain ⟨wh, hwh⟩ : ∃ W, W = wa.alloc (.cells #[.bool u, .int .u64 (y : Int)] 63) := ⟨_, rfl⟩
              have DH : Hid (Blk wh KH 63 [.bool u, .int .u64 (y : Int)]) := hid (by rw [hwh, hKH]; exact Blk.new _ _ _)
              have NH : Hid (some KH ≠ u5.ownBlock) := hid (by rw [hKH]; exact rdy_ne O.out)
              replace O : Hid (Rdy wh w3.heap.size u5 (10 + 16 * i + 9 * q) (Sn.head s0 ++ (hs.flatMap Sn.hB ++ (ss.take q).flatMap Sn.sB))) := hid (by rw [hwh]; exact rdy_alloc O.out _)
              replace HB : Hid (Below w3.heap.size w3 wh) := hid (by rw [hwh]; exact Bl.new HB.out _)
              have HWH := hid hwh
              have HKH := hid hKH
              clear hwh hKH
              cases u with
              | true =>
                go_wp2_with fail
                rw [← HWH.out, ← HKH.out]
                refine (bput_any (n := 1) (k := 1) O.out (by decide) (by decide) (by decide) (by have := HM.out; omega) HB.out.size).mono ?_; rintro e w7 ⟨v7, rfl, o_, g_, b_⟩
                have LT_ := DH.out.lt
                replace DH := hid (g_.blk DH.out NH.out)
                replace NH := hid (g_.ne LT_ NH.out)
                clear LT_
                replace HB := hid (HB.out.trans b_)
                replace O := hid (rdy_own o_)
                clear o_ g_ b_
                have k1 := DH.out.cell 1
                go_wp2_with fail
                refine (bput_any (n := y) (k := 8) O.out (HXY.out) (by decide) (by decide) (by have := HM.out; omega) HB.out.size).mono ?_; rintro e w8 ⟨v8, rfl, o_, g_, b_⟩
                have LT_ := DH.out.lt
                replace DH := hid (g_.blk DH.out NH.out)
                replace NH := hid (g_.ne LT_ NH.out)
                clear LT_
                replace HB := hid (HB.out.trans b_)
                replace O := hid (rdy_own o_)
                clear o_ g_ b_
                have O9 : Hid (Rdy w8 w3.heap.size v8 (10 + 16 * i + 9 * (q + 1)) (Sn.head s0 ++ (hs.flatMap Sn.hB ++ (ss.take (q + 1)).flatMap Sn.sB))) := hid (O.out.cast (by omega) (by rw [HT.out, HE.out]; simp only [List.append_assoc]; rfl))
                clear k1 q0 q1
                go_wp2_with fail
                go_roundw
                case rel => exact ⟨q + 1, by go_num, by omega, O9, HB⟩
                case measure => simp [intOf]; omega
              | false =>
                go_wp2_with fail
                rw [← HWH.out, ← HKH.out]
                refine (bput_any (n := 0) (k := 1) O.out (by decide) (by decide) (by decide) (by have := HM.out; omega) HB.out.size).mono ?_; rintro e w7 ⟨v7, rfl, o_, g_, b_⟩
                have LT_ := DH.out.lt
                replace DH := hid (g_.blk DH.out NH.out)
                replace NH := hid (g_.ne LT_ NH.out)
                clear LT_
                replace HB := hid (HB.out.trans b_)
                replace O := hid (rdy_own o_)
                clear o_ g_ b_
                have k1 := DH.out.cell 1
                go_wp2_with fail
                refine (bput_any (n := y) (k := 8) O.out (HXY.out) (by decide) (by decide) (by have := HM.out; omega) HB.out.size).mono ?_; rintro e w8 ⟨v8, rfl, o_, g_, b_⟩
                have LT_ := DH.out.lt
                replace DH := hid (g_.blk DH.out NH.out)
                replace NH := hid (g_.ne LT_ NH.out)
                clear LT_
                replace HB := hid (HB.out.trans b_)
                replace O := hid (rdy_own o_)
                clear o_ g_ b_
                have O9 : Hid (Rdy w8 w3.heap.size v8 (10 + 16 * i + 9 * (q + 1)) (Sn.head s0 ++ (hs.flatMap Sn.hB ++ (ss.take (q + 1)).flatMap Sn.sB))) := hid (O.out.cast (by omega) (by rw [HT.out, HE.out]; simp only [List.append_assoc]; rfl))
                clear k1 q0 q1
                go_wp2_with fail
                go_roundw
                case rel => exact ⟨q + 1, by go_num, by omega, O9, HB⟩
                case measure => simp [intOf]; omega
            case neg =>
              obtain rfl : q = ns := by omega
              have j0 : ¬ (q : Int) < (q : Int) := by omega
              replace O := hid (O.out.cast (l' := Sn.head s0 ++ (hs.flatMap Sn.hB ++ ss.flatMap Sn.sB)) (n' := 10 + 16 * i + 9 * q) rfl (by rw [List.take_of_length_le (l := ss) (by rw [HL3.out]; exact Nat.le_refl _)]))
              have x4 := (HB.out.cell (p := ⟨KS, 4, none⟩) HKS.out).trans (DS3.out.cell 4)
              have hne : (ne : Int) ≤ 100000 := by omega
              go_wp2_with fail
              refine (bput_any (n := ne) (k := 4) O.out (by omega) (by decide) (by decide) (by have := HM.out; omega) HB.out.size).mono ?_; rintro e wb ⟨vb, rfl, o_, g_, b_⟩
              replace HB := hid (HB.out.trans b_)
              replace O := hid o_
              clear o_ g_ b_
              have O3 := hid (own_cast O.out (l' := Sn.head s0 ++ (hs.flatMap Sn.hB ++ (ss.flatMap Sn.sB ++ Sn.enc ne 4))) (n' := 10 + 16 * i + 9 * q + 4) rfl (by simp only [List.append_assoc]))
              clear x4 O
              have x4 := (HB.out.cell (p := ⟨KS, 4, none⟩) HKS.out).trans (DS3.out.cell 4)
              go_wp2_with fail
              go_loopw [5, 85] (fun bv iv wr => ∃ z : Nat, iv = .int .i64 (z : Int) ∧ z ≤ ne ∧ Hid (wr.ownsRow w3.heap.size 5 1 bv (10 + 16 * i + 9 * q + 4 + 5 * z) (bys (Sn.head s0 ++ (hs.flatMap Sn.hB ++ (ss.flatMap Sn.sB ++ (Sn.enc ne 4 ++ (es.take z).flatMap Sn.eB)))))) ∧ Hid (Below w3.heap.size w3 wr)) (fun _ iv _ => ne - (intOf iv).toNat)
              case atStart => exact ⟨0, rfl, Nat.zero_le _, hid (own_cast O3.out rfl (by simp)), HB⟩
              case round =>
                clear O3 HB x4
                obtain ⟨z, rfl, hz, O, HB⟩ := hrel
                obtain ⟨wa, rfl⟩ : ∃ x, x = wr := ⟨wr, rfl⟩
                by_cases hlt : z < ne
                case pos =>
                  have j0 : (z : Int) < (ne : Int) := by omega
                  have hil : z < es.length := by rw [HL2.out]; exact hlt
                  obtain ⟨b6, o6, rfl, hb6, hc6⟩ := HX2.out (by omega)
                  have hb7 := Nat.lt_of_lt_of_le hb6 HB3.out.size
                  obtain ⟨p0, p1, p2⟩ := eds_cell hc6 hil
                  have q0 := (HB.out.cell (p := ⟨b6, o6 + z * 3, none⟩) hb7).trans ((HB3.out.cell (p := ⟨b6, o6 + z * 3, none⟩) hb6).trans p0)
                  have q1 := (HB.out.cell (p := ⟨b6, o6 + z * 3 + 1, none⟩) hb7).trans ((HB3.out.cell (p := ⟨b6, o6 + z * 3 + 1, none⟩) hb6).trans p1)
                  have q2 := (HB.out.cell (p := ⟨b6, o6 + z * 3 + 2, none⟩) hb7).trans ((HB3.out.cell (p := ⟨b6, o6 + z * 3 + 2, none⟩) hb6).trans p2)
                  have hbd := HOK.out.eb z hil
                  have HT := hid (flat_take Sn.eB es hil)
                  obtain ⟨e, he⟩ : ∃ e, e = es[z] := ⟨_, rfl⟩
                  rw [← he] at q0 q1 q2 HT
                  dsimp only at hbd
                  rw [← he] at hbd
                  obtain ⟨x, y, t⟩ := e
                  dsimp only at q0 q1 q2 hbd
                  obtain ⟨⟨d0, d1⟩, ⟨d2, d3⟩, d4, d5⟩ := hbd
                  obtain ⟨x, rfl⟩ := Int.eq_ofNat_of_zero_le d0
                  obtain ⟨y, rfl⟩ := Int.eq_ofNat_of_zero_le d2
                  obtain ⟨t, rfl⟩ := Int.eq_ofNat_of_zero_le d4
                  have l1 : x < 65536 := by omega
                  have l2 : y < 65536 := by omega
                  have l3 : t < 256 := by omega
                  have HE : Hid (Sn.eB ((x : Int), (y : Int), (t : Int)) = Sn.enc x 2 ++ (Sn.enc y 2 ++ Sn.enc t 1)) := hid (by simp [Sn.eB, encI_nat])
                  clear he p0 p1 p2 hc6 hil d0 d1 d2 d3 d4 d5
                  obtain ⟨KH, hKH⟩ : ∃ K, K = wa.heap.size := ⟨_, rfl⟩
                  obtain ⟨wh, hwh⟩ : ∃ W, W = wa.alloc (.cells #[.int .i64 (x : Int), .int .i64 (y : Int), .int .i64 (t : Int)] 61) := ⟨_, rfl⟩
                  have DH : Hid (Blk wh KH 61 [.int .i64 (x : Int), .int .i64 (y : Int), .int .i64 (t : Int)]) := hid (by rw [hwh, hKH]; exact Blk.new _ _ _)
                  have NH : Hid (some KH ≠ u5.ownBlock) := hid (by rw [hKH]; exact own_ne O.out)
                  replace O : Hid (wh.ownsRow w3.heap.size 5 1 u5 (10 + 16 * i + 9 * q + 4 + 5 * z) (bys (Sn.head s0 ++ (hs.flatMap Sn.hB ++ (ss.flatMap Sn.sB ++ (Sn.enc ne 4 ++ (es.take z).flatMap Sn.eB)))))) := hid (by rw [hwh]; exact O.out.alloc _)
                  replace HB : Hid (Below w3.heap.size w3 wh) := hid (by rw [hwh]; exact Bl.new HB.out _)
                  have HWH := hid hwh
                  have HKH := hid hKH
                  clear hwh hKH
                  go_wp2_with fail
                  rw [← HWH.out, ← HKH.out]
                  refine (bput_any (n := x) (k := 2) (rdy_own O.out) (by omega) (by decide) (by decide) (by have := HM.out; omega) HB.out.size).mono ?_; rintro e w7 ⟨v7, rfl, o_, g_, b_⟩
                  have LT_ := DH.out.lt
                  replace DH := hid (g_.blk DH.out NH.out)
                  replace NH := hid (g_.ne LT_ NH.out)
                  clear LT_
                  replace HB := hid (HB.out.trans b_)
                  replace O := hid o_
                  clear o_ g_ b_
                  have k1 := DH.out.cell 1
                  go_wp2_with fail
                  refine (bput_any (n := y) (k := 2) (rdy_own O.out) (by omega) (by decide) (by decide) (by have := HM.out; omega) HB.out.size).mono ?_; rintro e w8 ⟨v8, rfl, o_, g_, b_⟩
                  have LT_ := DH.out.lt
                  replace DH := hid (g_.blk DH.out NH.out)
                  replace NH := hid (g_.ne LT_ NH.out)
                  clear LT_
                  replace HB := hid (HB.out.trans b_)
                  replace O := hid o_
                  clear o_ g_ b_
                  clear k1
                  have k2 := DH.out.cell 2
                  go_wp2_with fail
                  refine (bput_any (n := t) (k := 1) (rdy_own O.out) (by omega) (by decide) (by decide) (by have := HM.out; omega) HB.out.size).mono ?_; rintro e w9 ⟨v9, rfl, o_, g_, b_⟩
                  have LT_ := DH.out.lt
                  replace DH := hid (g_.blk DH.out NH.out)
                  replace NH := hid (g_.ne LT_ NH.out)
                  clear LT_
                  replace HB := hid (HB.out.trans b_)
                  replace O := hid o_
                  clear o_ g_ b_
                  have O9 : Hid (w9.ownsRow w3.heap.size 5 1 v9 (10 + 16 * i + 9 * q + 4 + 5 * (z + 1)) (bys (Sn.head s0 ++ (hs.flatMap Sn.hB ++ (ss.flatMap Sn.sB ++ (Sn.enc ne 4 ++ (es.take (z + 1)).flatMap Sn.eB)))))) := hid (own_cast O.out (by omega) (by rw [HT.out, HE.out]; simp only [List.append_assoc]))
                  clear k2 q0 q1 q2
                  go_wp2_with fail
                  go_roundw
                  case rel => exact ⟨z + 1, by go_num, by omega, O9, HB⟩
                  case measure => simp [intOf]; omega
                case neg =>
                  obtain rfl : z = ne := by omega
                  have j0 : ¬ (z : Int) < (z : Int) := by omega
                  have HBD : Hid (Sn.head s0 ++ (hs.flatMap Sn.hB ++ (ss.flatMap Sn.sB ++ (Sn.enc z 4 ++ (es.take z).flatMap Sn.eB))) = Sn.body s0) := hid (by rw [List.take_of_length_le (l := es) (by rw [HL2.out]; exact Nat.le_refl _), HS0.out]; simp only [Sn.body]; rw [HL2.out])
                  replace O := hid (own_cast O.out (l' := Sn.body s0) (n' := 10 + 16 * i + 9 * q + 4 + 5 * z) rfl HBD.out)
                  have hcv := conv_own O.out (by omega)
                  have HLB : Hid ((Sn.body s0).length ≤ 1000000) := hid (by have h1 := O.out.1; rw [len_bys] at h1; have := HM.out; omega)
                  go_wp2_with fail
                  refine (bsum_any HLB.out).mono ?_; rintro e wd ⟨rfl, hq9⟩
                  replace HB := hid (HB.out.trans (hq9.below _))
                  replace O := hid (own_below O.out hq9.bel)
                  clear hcv hq9
                  go_wp2_with fail
                  refine (bput_any (n := Sn.sum (Sn.body s0)) (k := 8) (rdy_own O.out) (sn_small (Sn.sum_lt _)) (by decide) (by decide) (by have := HM.out; omega) HB.out.size).mono ?_; rintro e we ⟨vf, rfl, o_, g_, b_⟩
                  replace HB := hid (HB.out.trans b_)
                  replace O := hid o_
                  clear o_ g_ b_
                  have hcv := conv_own O.out (by omega)
                  go_wp2
                  exact bodyPost_ret (v := .tuple #[.string (str (Sn.body s0 ++ Sn.enc (Sn.sum (Sn.body s0)) 8)), .int .i64 0]) (by simp [results, Try.results13, go_sem]) rfl ⟨rfl, HB3.out.trans (HB.out.mono HB3.out.size)⟩
end Go.Proofs.Ytbafbnkmmpaomaa
