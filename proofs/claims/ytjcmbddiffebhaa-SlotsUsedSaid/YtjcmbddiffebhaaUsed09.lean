/-
  SlotsUsed's walk: what is used is used.
-/
import Derived.Test.YtjcmbddiffebhaaSloG
import Derived.StillTailTactics
namespace Go.Proofs.Ytjcmbddiffebhaa
open Go.RowKit

def UL (w : World) (p m z : Nat) (cv i : Value) (wr : World) : Prop :=
  ∃ (k : Nat) (s : St) (L : Nat), k ≤ z ∧ i = .int .i64 k ∧ cv = .int .i64 L ∧ s.len = L ∧ Slo wr p s ∧ s.most = m ∧ Below w.heap.size w wr
def IL (w : World) (p b : Nat) (s : St) (v : Value) (i : Value) (wr : World) : Prop :=
  ∃ j : Nat, j ≤ s.used.length ∧ i = .int .i64 j ∧ Slo wr p s ∧ Has wr b v s.used ∧ Below w.heap.size w wr

set_option maxHeartbeats 6000000 in
set_option maxRecDepth 100000 in
theorem used09_walk (most : Int) (A : Option Addr) (c : Nat) (Z : List (Int × Int × Int)) (w : World) (hZ : Z.length ≤ 9223372036854775807) (hr : ReadsB w A Z) :
    Calls Try.prog 12 #[.int .i64 most, .slice A Z.length c] w (TrueNewS w) := by
  have HR := Lib.hid hr
  clear hr
  obtain ⟨m, hm, hm31⟩ := and_31 most
  go_enter Try.func12, Try.ntmps12
  go_wp2_with fail
  with_reducible refine (awake09 w).mono ?_
  rintro e w1 ⟨rfl, b1⟩
  have B1 := Lib.hid b1
  clear b1
  by_cases hlen : Z.length ≤ 100
  · go_wp2_with fail
    with_reducible refine (new_slo (m : Int)).mono ?_
    rintro e w2 ⟨rfl, s2, b2⟩
    rw [kap_of m (by omega)] at s2
    obtain ⟨p, hp⟩ : ∃ p, p = w1.heap.size := ⟨_, rfl⟩
    have hwp : w.heap.size ≤ p := by rw [hp]; exact B1.out.size
    have B2 := Lib.hid (B1.out.trans (b2.mono B1.out.size))
    rw [← hp] at s2 ⊢
    have S2 := Lib.hid s2
    have HN := Lib.hid hm
    clear s2 b2 hp hm
    go_wp2_with fail
    go_loopw [7, 8] (fun cv i wr => UL w p m Z.length cv i wr) (fun _ i _ => Z.length - (intOf i).toNat)
    case atStart => exact ⟨0, _, 0, Nat.zero_le _, rfl, rfl, rfl, S2.out, rfl, B2.out⟩
    case round =>
      obtain ⟨k, s, L, hk, rfl, rfl, hL, s3, hm3, b3⟩ := hrel
      have S3 := Lib.hid s3
      have B3 := Lib.hid b3
      have M3 := Lib.hid hm3
      have HL := Lib.hid hL
      have OK := Lib.hid s3.ok
      have hLm : L ≤ m := by have := s3.ok.len_most; omega
      clear s3 b3 hm3 hL
      by_cases hlt2 : k < Z.length
      · obtain ⟨b, off, rfl, hb, hc0, hc1, hc2⟩ := HR.out k hlt2
        obtain ⟨⟨wh, x, y⟩, hx⟩ : ∃ a, a = Z.getD k (0, 0, 0) := ⟨_, rfl⟩
        rw [← hx] at hc0 hc1 hc2
        have D0 := Lib.hid (fun W (h : Below w.heap.size w W) => (h.cell (p := ⟨b, off + k * 3, none⟩) hb).trans hc0)
        have D1 := Lib.hid (fun W (h : Below w.heap.size w W) => (h.cell (p := ⟨b, off + k * 3 + 1, none⟩) hb).trans hc1)
        have D2 := Lib.hid (fun W (h : Below w.heap.size w W) => (h.cell (p := ⟨b, off + k * 3 + 2, none⟩) hb).trans hc2)
        have g1 : (0 : Int) ≤ (k : Int) := by omega
        have g2 : (k : Int) < (Z.length : Int) := by omega
        clear hc0 hc1 hc2 hx
        go_wp2_with fail
        with_reducible refine (used_slo S3.out).mono ?_
        rintro e w4 ⟨v4, rfl, h4, b4⟩
        have B4 := Lib.hid (B3.out.trans (b4.mono B3.out.size))
        have S4 := Lib.hid (S3.out.below b4)
        have H4 := Lib.hid h4
        have e0 := D0.out w4 B4.out
        have e1 := D1.out w4 B4.out
        have e2 := D2.out w4 B4.out
        clear h4 b4
        by_cases hwh : wh = 0
        · have hw0 : (wh == 0) = true := by simp [hwh]
          have HWH := Lib.hid hwh
          clear hwh
          go_wp2_with fail
          with_reducible refine (take_slo S4.out y).mono ?_
          rintro e w6 ⟨rfl, s6, k6⟩
          have B9 := Lib.hid (sk_below k6 B4.out hwp)
          cases hf : s.full with
          | true =>
            have ht : s.take y = s := by simp [St.take, hf]
            rw [ht] at s6
            obtain ⟨w9, rfl⟩ : ∃ w9, w9 = w6 := ⟨_, rfl⟩
            obtain ⟨s9, hs9⟩ : ∃ s9, s9 = s := ⟨_, rfl⟩
            obtain ⟨L9, hL9⟩ : ∃ L9, L9 = L := ⟨_, rfl⟩
            have S9 := Lib.hid (show Slo w9 p s9 by rw [hs9]; exact s6)
            have M9 := Lib.hid (show s9.most = m by rw [hs9]; exact M3.out)
            have HL9 := Lib.hid (show s9.len = L9 by rw [hs9, hL9]; exact HL.out)
            clear s6 k6 hf ht hs9 e0 e1 e2
            go_wp2_with fail
            rw [← hL9]
            clear hL9
            with_reducible refine (used_slo S9.out).mono ?_
            rintro e w11 ⟨v11, rfl, h11, b11⟩
            obtain ⟨A11, c11, rfl⟩ := h11.shape
            have hul := S9.out.ok.used_len
            have hlm9 := S9.out.ok.len_most
            rw [HL9.out] at hul hlm9
            rw [M9.out] at hlm9
            have B11 := Lib.hid (B9.out.trans (b11.mono B9.out.size))
            have S11 := Lib.hid (S9.out.below b11)
            obtain ⟨bb, hbb⟩ : ∃ bb, bb = w9.heap.size := ⟨_, rfl⟩
            rw [← hbb] at h11
            have H11 := Lib.hid h11
            have HUL := Lib.hid hul
            clear h11 b11 hul hbb
            rw [HUL.out]
            go_wp2_with fail
            go_loopw [16] (fun i wr => IL w p bb s9 (.slice A11 L9 c11) i wr) (fun i _ => L9 - (intOf i).toNat)
            case atStart => exact ⟨0, Nat.zero_le _, rfl, S11.out, by have := H11.out; rw [HUL.out] at this; exact this, B11.out⟩
            case round =>
              obtain ⟨t, ht, rfl, s12, h12, b12⟩ := hrel
              have S12 := Lib.hid s12
              have H12 := Lib.hid h12
              have B12 := Lib.hid b12
              rw [HUL.out] at ht
              by_cases hlt4 : t < L9
              · have htu : t < s9.used.length := by rw [HUL.out]; exact hlt4
                obtain ⟨gu, rfl, _, cu⟩ := h12.cellAt rfl t htu
                have hhu := St.used_has t htu
                obtain ⟨u, hu⟩ : ∃ u, u = s9.used.getD t 0 := ⟨_, rfl⟩
                rw [← hu] at cu hhu
                have HHU := Lib.hid hhu
                have u1 : (0 : Int) ≤ (t : Int) := by omega
                have u2 : (t : Int) < (L9 : Int) := by omega
                cases t with
                | zero =>
                  clear s12 h12 b12 hhu hu
                  go_wp2_with fail
                  with_reducible refine (at_slo S12.out u).mono ?_
                  rintro e w13 ⟨rfl, rfl⟩
                  rw [HHU.out]
                  go_wp2_with fail
                  go_quiet (fail)
                  go_wp2_with fail
                  go_roundw
                  case rel => exact ⟨0 + 1, by rw [HUL.out]; omega, rfl, S12.out.drewN nq, H12.out.drewN nq, s_below_drewN B12.out nq⟩
                  case measure => simp [intOf]; omega
                | succ t =>
                  obtain ⟨gv, hgv, _, cv⟩ := h12.cellAt rfl t (by omega)
                  obtain rfl : gv = gu := by injection hgv with hgv; injection hgv with hgv; exact hgv.symm
                  have hri := St.used_rising (s := s9) (t + 1) (by omega) htu
                  rw [← hu, Nat.add_sub_cancel] at hri
                  obtain ⟨v, hv⟩ : ∃ v, v = s9.used.getD t 0 := ⟨_, rfl⟩
                  rw [← hv] at cv hri
                  have e9 : ((t + 1 : Nat) : Int) = (t : Int) + 1 := by omega
                  rw [e9] at u1 u2 ⊢
                  have u3 : (0 : Int) ≤ (t : Int) := by omega
                  have u4 : (t : Int) < (L9 : Int) := by omega
                  have u5 : decide (u ≤ v) = false := decide_eq_false (by omega)
                  have u6 : decide (0 < (t : Int) + 1) = true := decide_eq_true (by omega)
                  clear s12 h12 b12 hhu hu hv e9
                  go_wp2_with fail
                  with_reducible refine (at_slo S12.out u).mono ?_
                  rintro e w13 ⟨rfl, rfl⟩
                  rw [HHU.out]
                  go_wp2_with fail
                  go_quiet (fail)
                  go_wp2_with fail
                  go_roundw
                  case rel => exact ⟨t + 1 + 1, by rw [HUL.out]; omega, by go_num, S12.out.drewN nq, H12.out.drewN nq, s_below_drewN B12.out nq⟩
                  case measure => simp [intOf]; omega
              · obtain rfl : t = L9 := by omega
                have hn2 := HN.out
                have hLL : ((t : Int) != (t : Int)) = false := by simp
                clear s12 h12 b12
                go_wp2_with fail
                with_reducible refine (len_slo S12.out).mono ?_
                rintro e w13 ⟨rfl, rfl⟩
                rw [HL9.out]
                go_wp2_with fail
                go_roundw
                case rel => exact ⟨k + 1, s9, t, hlt2, by go_num, rfl, HL9.out, S12.out, M9.out, B12.out⟩
                case measure => simp [intOf]; omega
          | false =>
            have hl9 := OK.out.take_len hf y
            have hlm := s6.ok.len_most
            have hmm := St.take_most (s := s) y
            obtain ⟨w9, rfl⟩ : ∃ w9, w9 = w6 := ⟨_, rfl⟩
            obtain ⟨s9, hs9⟩ : ∃ s9, s9 = s.take y := ⟨_, rfl⟩
            rw [← hs9] at s6 hl9 hlm hmm
            have S9 := Lib.hid s6
            have M9 := Lib.hid (hmm.trans M3.out)
            have HL9 := Lib.hid (show s9.len = L + 1 by rw [hl9, HL.out])
            have hL1 : L + 1 ≤ m := by have := HL.out; have := M3.out; omega
            clear s6 k6 hf hs9 hl9 hlm hmm e0 e1 e2
            go_wp2_with fail
            rw [show ((L : Int) + 1) = ((L + 1 : Nat) : Int) by omega]
            obtain ⟨L9, hL9⟩ : ∃ L9, L9 = L + 1 := ⟨_, rfl⟩
            rw [← hL9] at HL9 ⊢
            clear hL9
            with_reducible refine (used_slo S9.out).mono ?_
            rintro e w11 ⟨v11, rfl, h11, b11⟩
            obtain ⟨A11, c11, rfl⟩ := h11.shape
            have hul := S9.out.ok.used_len
            have hlm9 := S9.out.ok.len_most
            rw [HL9.out] at hul hlm9
            rw [M9.out] at hlm9
            have B11 := Lib.hid (B9.out.trans (b11.mono B9.out.size))
            have S11 := Lib.hid (S9.out.below b11)
            obtain ⟨bb, hbb⟩ : ∃ bb, bb = w9.heap.size := ⟨_, rfl⟩
            rw [← hbb] at h11
            have H11 := Lib.hid h11
            have HUL := Lib.hid hul
            clear h11 b11 hul hbb
            rw [HUL.out]
            go_wp2_with fail
            go_loopw [16] (fun i wr => IL w p bb s9 (.slice A11 L9 c11) i wr) (fun i _ => L9 - (intOf i).toNat)
            case atStart => exact ⟨0, Nat.zero_le _, rfl, S11.out, by have := H11.out; rw [HUL.out] at this; exact this, B11.out⟩
            case round =>
              obtain ⟨t, ht, rfl, s12, h12, b12⟩ := hrel
              have S12 := Lib.hid s12
              have H12 := Lib.hid h12
              have B12 := Lib.hid b12
              rw [HUL.out] at ht
              by_cases hlt4 : t < L9
              · have htu : t < s9.used.length := by rw [HUL.out]; exact hlt4
                obtain ⟨gu, rfl, _, cu⟩ := h12.cellAt rfl t htu
                have hhu := St.used_has t htu
                obtain ⟨u, hu⟩ : ∃ u, u = s9.used.getD t 0 := ⟨_, rfl⟩
                rw [← hu] at cu hhu
                have HHU := Lib.hid hhu
                have u1 : (0 : Int) ≤ (t : Int) := by omega
                have u2 : (t : Int) < (L9 : Int) := by omega
                cases t with
                | zero =>
                  clear s12 h12 b12 hhu hu
                  go_wp2_with fail
                  with_reducible refine (at_slo S12.out u).mono ?_
                  rintro e w13 ⟨rfl, rfl⟩
                  rw [HHU.out]
                  go_wp2_with fail
                  go_quiet (fail)
                  go_wp2_with fail
                  go_roundw
                  case rel => exact ⟨0 + 1, by rw [HUL.out]; omega, rfl, S12.out.drewN nq, H12.out.drewN nq, s_below_drewN B12.out nq⟩
                  case measure => simp [intOf]; omega
                | succ t =>
                  obtain ⟨gv, hgv, _, cv⟩ := h12.cellAt rfl t (by omega)
                  obtain rfl : gv = gu := by injection hgv with hgv; injection hgv with hgv; exact hgv.symm
                  have hri := St.used_rising (s := s9) (t + 1) (by omega) htu
                  rw [← hu, Nat.add_sub_cancel] at hri
                  obtain ⟨v, hv⟩ : ∃ v, v = s9.used.getD t 0 := ⟨_, rfl⟩
                  rw [← hv] at cv hri
                  have e9 : ((t + 1 : Nat) : Int) = (t : Int) + 1 := by omega
                  rw [e9] at u1 u2 ⊢
                  have u3 : (0 : Int) ≤ (t : Int) := by omega
                  have u4 : (t : Int) < (L9 : Int) := by omega
                  have u5 : decide (u ≤ v) = false := decide_eq_false (by omega)
                  have u6 : decide (0 < (t : Int) + 1) = true := decide_eq_true (by omega)
                  clear s12 h12 b12 hhu hu hv e9
                  go_wp2_with fail
                  with_reducible refine (at_slo S12.out u).mono ?_
                  rintro e w13 ⟨rfl, rfl⟩
                  rw [HHU.out]
                  go_wp2_with fail
                  go_quiet (fail)
                  go_wp2_with fail
                  go_roundw
                  case rel => exact ⟨t + 1 + 1, by rw [HUL.out]; omega, by go_num, S12.out.drewN nq, H12.out.drewN nq, s_below_drewN B12.out nq⟩
                  case measure => simp [intOf]; omega
              · obtain rfl : t = L9 := by omega
                have hn2 := HN.out
                have hLL : ((t : Int) != (t : Int)) = false := by simp
                clear s12 h12 b12
                go_wp2_with fail
                with_reducible refine (len_slo S12.out).mono ?_
                rintro e w13 ⟨rfl, rfl⟩
                rw [HL9.out]
                go_wp2_with fail
                go_roundw
                case rel => exact ⟨k + 1, s9, t, hlt2, by go_num, rfl, HL9.out, S12.out, M9.out, B12.out⟩
                case measure => simp [intOf]; omega
        · have hw0 : (wh == 0) = false := by simp [hwh]
          have HWH := Lib.hid hwh
          clear hwh
          by_cases hwi : wh = 1
          · have hw1 : (wh == 1) = true := by simp [hwi]
            have HWI := Lib.hid hwi
            clear hwi
            go_wp2_with fail
            with_reducible refine (give_slo S4.out x).mono ?_
            rintro e w6 ⟨rfl, s6, k6⟩
            have B9 := Lib.hid (sk_below k6 B4.out hwp)
            cases hh : s.has x with
            | false =>
              have ht : s.give x = s := by simp [St.give, hh]
              rw [ht] at s6
              obtain ⟨w9, rfl⟩ : ∃ w9, w9 = w6 := ⟨_, rfl⟩
              obtain ⟨s9, hs9⟩ : ∃ s9, s9 = s := ⟨_, rfl⟩
              obtain ⟨L9, hL9⟩ : ∃ L9, L9 = L := ⟨_, rfl⟩
              have S9 := Lib.hid (show Slo w9 p s9 by rw [hs9]; exact s6)
              have M9 := Lib.hid (show s9.most = m by rw [hs9]; exact M3.out)
              have HL9 := Lib.hid (show s9.len = L9 by rw [hs9, hL9]; exact HL.out)
              clear s6 k6 hh ht hs9 e0 e1 e2
              go_wp2_with fail
              rw [← hL9]
              clear hL9
              with_reducible refine (used_slo S9.out).mono ?_
              rintro e w11 ⟨v11, rfl, h11, b11⟩
              obtain ⟨A11, c11, rfl⟩ := h11.shape
              have hul := S9.out.ok.used_len
              have hlm9 := S9.out.ok.len_most
              rw [HL9.out] at hul hlm9
              rw [M9.out] at hlm9
              have B11 := Lib.hid (B9.out.trans (b11.mono B9.out.size))
              have S11 := Lib.hid (S9.out.below b11)
              obtain ⟨bb, hbb⟩ : ∃ bb, bb = w9.heap.size := ⟨_, rfl⟩
              rw [← hbb] at h11
              have H11 := Lib.hid h11
              have HUL := Lib.hid hul
              clear h11 b11 hul hbb
              rw [HUL.out]
              go_wp2_with fail
              go_loopw [16] (fun i wr => IL w p bb s9 (.slice A11 L9 c11) i wr) (fun i _ => L9 - (intOf i).toNat)
              case atStart => exact ⟨0, Nat.zero_le _, rfl, S11.out, by have := H11.out; rw [HUL.out] at this; exact this, B11.out⟩
              case round =>
                obtain ⟨t, ht, rfl, s12, h12, b12⟩ := hrel
                have S12 := Lib.hid s12
                have H12 := Lib.hid h12
                have B12 := Lib.hid b12
                rw [HUL.out] at ht
                by_cases hlt4 : t < L9
                · have htu : t < s9.used.length := by rw [HUL.out]; exact hlt4
                  obtain ⟨gu, rfl, _, cu⟩ := h12.cellAt rfl t htu
                  have hhu := St.used_has t htu
                  obtain ⟨u, hu⟩ : ∃ u, u = s9.used.getD t 0 := ⟨_, rfl⟩
                  rw [← hu] at cu hhu
                  have HHU := Lib.hid hhu
                  have u1 : (0 : Int) ≤ (t : Int) := by omega
                  have u2 : (t : Int) < (L9 : Int) := by omega
                  cases t with
                  | zero =>
                    clear s12 h12 b12 hhu hu
                    go_wp2_with fail
                    with_reducible refine (at_slo S12.out u).mono ?_
                    rintro e w13 ⟨rfl, rfl⟩
                    rw [HHU.out]
                    go_wp2_with fail
                    go_quiet (fail)
                    go_wp2_with fail
                    go_roundw
                    case rel => exact ⟨0 + 1, by rw [HUL.out]; omega, rfl, S12.out.drewN nq, H12.out.drewN nq, s_below_drewN B12.out nq⟩
                    case measure => simp [intOf]; omega
                  | succ t =>
                    obtain ⟨gv, hgv, _, cv⟩ := h12.cellAt rfl t (by omega)
                    obtain rfl : gv = gu := by injection hgv with hgv; injection hgv with hgv; exact hgv.symm
                    have hri := St.used_rising (s := s9) (t + 1) (by omega) htu
                    rw [← hu, Nat.add_sub_cancel] at hri
                    obtain ⟨v, hv⟩ : ∃ v, v = s9.used.getD t 0 := ⟨_, rfl⟩
                    rw [← hv] at cv hri
                    have e9 : ((t + 1 : Nat) : Int) = (t : Int) + 1 := by omega
                    rw [e9] at u1 u2 ⊢
                    have u3 : (0 : Int) ≤ (t : Int) := by omega
                    have u4 : (t : Int) < (L9 : Int) := by omega
                    have u5 : decide (u ≤ v) = false := decide_eq_false (by omega)
                    have u6 : decide (0 < (t : Int) + 1) = true := decide_eq_true (by omega)
                    clear s12 h12 b12 hhu hu hv e9
                    go_wp2_with fail
                    with_reducible refine (at_slo S12.out u).mono ?_
                    rintro e w13 ⟨rfl, rfl⟩
                    rw [HHU.out]
                    go_wp2_with fail
                    go_quiet (fail)
                    go_wp2_with fail
                    go_roundw
                    case rel => exact ⟨t + 1 + 1, by rw [HUL.out]; omega, by go_num, S12.out.drewN nq, H12.out.drewN nq, s_below_drewN B12.out nq⟩
                    case measure => simp [intOf]; omega
                · obtain rfl : t = L9 := by omega
                  have hn2 := HN.out
                  have hLL : ((t : Int) != (t : Int)) = false := by simp
                  clear s12 h12 b12
                  go_wp2_with fail
                  with_reducible refine (len_slo S12.out).mono ?_
                  rintro e w13 ⟨rfl, rfl⟩
                  rw [HL9.out]
                  go_wp2_with fail
                  go_roundw
                  case rel => exact ⟨k + 1, s9, t, hlt2, by go_num, rfl, HL9.out, S12.out, M9.out, B12.out⟩
                  case measure => simp [intOf]; omega
            | true =>
              have hl9 := OK.out.give_len' hh
              have hmm := St.give_most (s := s) x
              obtain ⟨w9, rfl⟩ : ∃ w9, w9 = w6 := ⟨_, rfl⟩
              obtain ⟨s9, hs9⟩ : ∃ s9, s9 = s.give x := ⟨_, rfl⟩
              rw [← hs9] at s6 hl9 hmm
              have S9 := Lib.hid s6
              have M9 := Lib.hid (hmm.trans M3.out)
              have hL1 : 1 ≤ L := by have := HL.out; omega
              have HL9 := Lib.hid (show s9.len = L - 1 by have := HL.out; omega)
              clear s6 k6 hh hs9 hl9 hmm e0 e1 e2
              go_wp2_with fail
              rw [show ((L : Int) - 1) = ((L - 1 : Nat) : Int) by omega]
              obtain ⟨L9, hL9⟩ : ∃ L9, L9 = L - 1 := ⟨_, rfl⟩
              rw [← hL9] at HL9 ⊢
              clear hL9
              with_reducible refine (used_slo S9.out).mono ?_
              rintro e w11 ⟨v11, rfl, h11, b11⟩
              obtain ⟨A11, c11, rfl⟩ := h11.shape
              have hul := S9.out.ok.used_len
              have hlm9 := S9.out.ok.len_most
              rw [HL9.out] at hul hlm9
              rw [M9.out] at hlm9
              have B11 := Lib.hid (B9.out.trans (b11.mono B9.out.size))
              have S11 := Lib.hid (S9.out.below b11)
              obtain ⟨bb, hbb⟩ : ∃ bb, bb = w9.heap.size := ⟨_, rfl⟩
              rw [← hbb] at h11
              have H11 := Lib.hid h11
              have HUL := Lib.hid hul
              clear h11 b11 hul hbb
              rw [HUL.out]
              go_wp2_with fail
              go_loopw [16] (fun i wr => IL w p bb s9 (.slice A11 L9 c11) i wr) (fun i _ => L9 - (intOf i).toNat)
              case atStart => exact ⟨0, Nat.zero_le _, rfl, S11.out, by have := H11.out; rw [HUL.out] at this; exact this, B11.out⟩
              case round =>
                obtain ⟨t, ht, rfl, s12, h12, b12⟩ := hrel
                have S12 := Lib.hid s12
                have H12 := Lib.hid h12
                have B12 := Lib.hid b12
                rw [HUL.out] at ht
                by_cases hlt4 : t < L9
                · have htu : t < s9.used.length := by rw [HUL.out]; exact hlt4
                  obtain ⟨gu, rfl, _, cu⟩ := h12.cellAt rfl t htu
                  have hhu := St.used_has t htu
                  obtain ⟨u, hu⟩ : ∃ u, u = s9.used.getD t 0 := ⟨_, rfl⟩
                  rw [← hu] at cu hhu
                  have HHU := Lib.hid hhu
                  have u1 : (0 : Int) ≤ (t : Int) := by omega
                  have u2 : (t : Int) < (L9 : Int) := by omega
                  cases t with
                  | zero =>
                    clear s12 h12 b12 hhu hu
                    go_wp2_with fail
                    with_reducible refine (at_slo S12.out u).mono ?_
                    rintro e w13 ⟨rfl, rfl⟩
                    rw [HHU.out]
                    go_wp2_with fail
                    go_quiet (fail)
                    go_wp2_with fail
                    go_roundw
                    case rel => exact ⟨0 + 1, by rw [HUL.out]; omega, rfl, S12.out.drewN nq, H12.out.drewN nq, s_below_drewN B12.out nq⟩
                    case measure => simp [intOf]; omega
                  | succ t =>
                    obtain ⟨gv, hgv, _, cv⟩ := h12.cellAt rfl t (by omega)
                    obtain rfl : gv = gu := by injection hgv with hgv; injection hgv with hgv; exact hgv.symm
                    have hri := St.used_rising (s := s9) (t + 1) (by omega) htu
                    rw [← hu, Nat.add_sub_cancel] at hri
                    obtain ⟨v, hv⟩ : ∃ v, v = s9.used.getD t 0 := ⟨_, rfl⟩
                    rw [← hv] at cv hri
                    have e9 : ((t + 1 : Nat) : Int) = (t : Int) + 1 := by omega
                    rw [e9] at u1 u2 ⊢
                    have u3 : (0 : Int) ≤ (t : Int) := by omega
                    have u4 : (t : Int) < (L9 : Int) := by omega
                    have u5 : decide (u ≤ v) = false := decide_eq_false (by omega)
                    have u6 : decide (0 < (t : Int) + 1) = true := decide_eq_true (by omega)
                    clear s12 h12 b12 hhu hu hv e9
                    go_wp2_with fail
                    with_reducible refine (at_slo S12.out u).mono ?_
                    rintro e w13 ⟨rfl, rfl⟩
                    rw [HHU.out]
                    go_wp2_with fail
                    go_quiet (fail)
                    go_wp2_with fail
                    go_roundw
                    case rel => exact ⟨t + 1 + 1, by rw [HUL.out]; omega, by go_num, S12.out.drewN nq, H12.out.drewN nq, s_below_drewN B12.out nq⟩
                    case measure => simp [intOf]; omega
                · obtain rfl : t = L9 := by omega
                  have hn2 := HN.out
                  have hLL : ((t : Int) != (t : Int)) = false := by simp
                  clear s12 h12 b12
                  go_wp2_with fail
                  with_reducible refine (len_slo S12.out).mono ?_
                  rintro e w13 ⟨rfl, rfl⟩
                  rw [HL9.out]
                  go_wp2_with fail
                  go_roundw
                  case rel => exact ⟨k + 1, s9, t, hlt2, by go_num, rfl, HL9.out, S12.out, M9.out, B12.out⟩
                  case measure => simp [intOf]; omega
          · have hw1 : (wh == 1) = false := by simp [hwi]
            have HWI := Lib.hid hwi
            clear hwi
            go_wp2_with fail
            go_still_tail 11, (by kernel_rfl)
            go_wp2_with fail
            with_reducible refine (swap_slo S4.out.drew x y).mono ?_
            rintro e w6 ⟨rfl, s6, k6⟩
            have B6 := Lib.hid (sk_below k6 B4.out.drew hwp)
            have H6 := Lib.hid (k6.has H4.out.drew)
            have f0 := D0.out w6 B6.out
            have f1 := D1.out w6 B6.out
            have f2 := D2.out w6 B6.out
            have huse := St.swap_used (s := s) x y
            have hl9 := St.swap_len (s := s) x y
            have hmm := St.swap_most (s := s) x y
            have hhas : (s.swap x y).has x = s.has x ∧ (s.has x = true → (s.swap x y).get x = y) := by
              cases hh : s.has x with
              | true => exact ⟨(St.swap_at hh y).1, fun _ => (St.swap_at hh y).2⟩
              | false => rw [St.swap_no' hh]; exact ⟨hh, fun h => absurd h (by decide)⟩
            obtain ⟨s9, hs9⟩ : ∃ s9, s9 = s.swap x y := ⟨_, rfl⟩
            rw [← hs9] at s6 huse hl9 hmm hhas
            have S6 := Lib.hid s6
            have M9 := Lib.hid (hmm.trans M3.out)
            have HU := Lib.hid huse
            have HH := Lib.hid hhas
            obtain ⟨L9, hL9⟩ : ∃ L9, L9 = L := ⟨_, rfl⟩
            have HL9 := Lib.hid (show s9.len = L9 by rw [hl9, hL9]; exact HL.out)
            clear s6 k6 hs9 hl9 hmm huse hhas e0 e1 e2
            rw [← hL9]
            clear hL9
            cases hh : s.has x with
            | true =>
              have hbb : (true != true) = false := rfl
              have hyy : (y != y) = false := by simp
              have HHX := Lib.hid hh
              clear hh
              go_wp2_with fail
              with_reducible refine (at_slo S6.out x).mono ?_
              rintro e w7 ⟨rfl, rfl⟩
              rw [HH.out.1, HHX.out, HH.out.2 HHX.out]
              go_wp2_with fail
              with_reducible refine (used_slo S6.out).mono ?_
              rintro e w8 ⟨v8, rfl, h8, b8⟩
              have B8 := Lib.hid (B6.out.trans (b8.mono B6.out.size))
              have S8 := Lib.hid (S6.out.below b8)
              have H8 := Lib.hid (H6.out.below b8)
              have H8' := Lib.hid h8
              clear h8 b8 f0 f1 f2
              go_wp2_with fail
              with_reducible refine (ints_any H8.out H8'.out).mono ?_
              rintro e w10 ⟨rfl, q, rfl⟩
              have eq : eqB s.used s9.used = true := by rw [HU.out]; simp [eqB]
              rw [eq]
              clear eq
              have S9 := Lib.hid (S8.out.drewN q)
              have B9 := Lib.hid (s_below_drewN B8.out q)
              obtain ⟨w9, hw9⟩ : ∃ w9, w9 = w8.drewN q := ⟨_, rfl⟩
              rw [← hw9] at S9 B9 ⊢
              clear hw9 H8 H8' S8 B8 S6 B6 H6
              go_wp2_with fail
              with_reducible refine (used_slo S9.out).mono ?_
              rintro e w11 ⟨v11, rfl, h11, b11⟩
              obtain ⟨A11, c11, rfl⟩ := h11.shape
              have hul := S9.out.ok.used_len
              have hlm9 := S9.out.ok.len_most
              rw [HL9.out] at hul hlm9
              rw [M9.out] at hlm9
              have B11 := Lib.hid (B9.out.trans (b11.mono B9.out.size))
              have S11 := Lib.hid (S9.out.below b11)
              obtain ⟨bb, hbb⟩ : ∃ bb, bb = w9.heap.size := ⟨_, rfl⟩
              rw [← hbb] at h11
              have H11 := Lib.hid h11
              have HUL := Lib.hid hul
              clear h11 b11 hul hbb
              rw [HUL.out]
              go_wp2_with fail
              go_loopw [16] (fun i wr => IL w p bb s9 (.slice A11 L9 c11) i wr) (fun i _ => L9 - (intOf i).toNat)
              case atStart => exact ⟨0, Nat.zero_le _, rfl, S11.out, by have := H11.out; rw [HUL.out] at this; exact this, B11.out⟩
              case round =>
                obtain ⟨t, ht, rfl, s12, h12, b12⟩ := hrel
                have S12 := Lib.hid s12
                have H12 := Lib.hid h12
                have B12 := Lib.hid b12
                rw [HUL.out] at ht
                by_cases hlt4 : t < L9
                · have htu : t < s9.used.length := by rw [HUL.out]; exact hlt4
                  obtain ⟨gu, rfl, _, cu⟩ := h12.cellAt rfl t htu
                  have hhu := St.used_has t htu
                  obtain ⟨u, hu⟩ : ∃ u, u = s9.used.getD t 0 := ⟨_, rfl⟩
                  rw [← hu] at cu hhu
                  have HHU := Lib.hid hhu
                  have u1 : (0 : Int) ≤ (t : Int) := by omega
                  have u2 : (t : Int) < (L9 : Int) := by omega
                  cases t with
                  | zero =>
                    clear s12 h12 b12 hhu hu
                    go_wp2_with fail
                    with_reducible refine (at_slo S12.out u).mono ?_
                    rintro e w13 ⟨rfl, rfl⟩
                    rw [HHU.out]
                    go_wp2_with fail
                    go_quiet (fail)
                    go_wp2_with fail
                    go_roundw
                    case rel => exact ⟨0 + 1, by rw [HUL.out]; omega, rfl, S12.out.drewN nq, H12.out.drewN nq, s_below_drewN B12.out nq⟩
                    case measure => simp [intOf]; omega
                  | succ t =>
                    obtain ⟨gv, hgv, _, cv⟩ := h12.cellAt rfl t (by omega)
                    obtain rfl : gv = gu := by injection hgv with hgv; injection hgv with hgv; exact hgv.symm
                    have hri := St.used_rising (s := s9) (t + 1) (by omega) htu
                    rw [← hu, Nat.add_sub_cancel] at hri
                    obtain ⟨v, hv⟩ : ∃ v, v = s9.used.getD t 0 := ⟨_, rfl⟩
                    rw [← hv] at cv hri
                    have e9 : ((t + 1 : Nat) : Int) = (t : Int) + 1 := by omega
                    rw [e9] at u1 u2 ⊢
                    have u3 : (0 : Int) ≤ (t : Int) := by omega
                    have u4 : (t : Int) < (L9 : Int) := by omega
                    have u5 : decide (u ≤ v) = false := decide_eq_false (by omega)
                    have u6 : decide (0 < (t : Int) + 1) = true := decide_eq_true (by omega)
                    clear s12 h12 b12 hhu hu hv e9
                    go_wp2_with fail
                    with_reducible refine (at_slo S12.out u).mono ?_
                    rintro e w13 ⟨rfl, rfl⟩
                    rw [HHU.out]
                    go_wp2_with fail
                    go_quiet (fail)
                    go_wp2_with fail
                    go_roundw
                    case rel => exact ⟨t + 1 + 1, by rw [HUL.out]; omega, by go_num, S12.out.drewN nq, H12.out.drewN nq, s_below_drewN B12.out nq⟩
                    case measure => simp [intOf]; omega
                · obtain rfl : t = L9 := by omega
                  have hn2 := HN.out
                  have hLL : ((t : Int) != (t : Int)) = false := by simp
                  clear s12 h12 b12
                  go_wp2_with fail
                  with_reducible refine (len_slo S12.out).mono ?_
                  rintro e w13 ⟨rfl, rfl⟩
                  rw [HL9.out]
                  go_wp2_with fail
                  go_roundw
                  case rel => exact ⟨k + 1, s9, t, hlt2, by go_num, rfl, HL9.out, S12.out, M9.out, B12.out⟩
                  case measure => simp [intOf]; omega
            | false =>
              have hbb : (false != false) = false := rfl
              have HHX := Lib.hid hh
              clear hh
              go_wp2_with fail
              with_reducible refine (at_slo S6.out x).mono ?_
              rintro e w7 ⟨rfl, rfl⟩
              rw [HH.out.1, HHX.out]
              go_wp2_with fail
              with_reducible refine (used_slo S6.out).mono ?_
              rintro e w8 ⟨v8, rfl, h8, b8⟩
              have B8 := Lib.hid (B6.out.trans (b8.mono B6.out.size))
              have S8 := Lib.hid (S6.out.below b8)
              have H8 := Lib.hid (H6.out.below b8)
              have H8' := Lib.hid h8
              clear h8 b8 f0 f1 f2
              go_wp2_with fail
              with_reducible refine (ints_any H8.out H8'.out).mono ?_
              rintro e w10 ⟨rfl, q, rfl⟩
              have eq : eqB s.used s9.used = true := by rw [HU.out]; simp [eqB]
              rw [eq]
              clear eq
              have S9 := Lib.hid (S8.out.drewN q)
              have B9 := Lib.hid (s_below_drewN B8.out q)
              obtain ⟨w9, hw9⟩ : ∃ w9, w9 = w8.drewN q := ⟨_, rfl⟩
              rw [← hw9] at S9 B9 ⊢
              clear hw9 H8 H8' S8 B8 S6 B6 H6
              go_wp2_with fail
              with_reducible refine (used_slo S9.out).mono ?_
              rintro e w11 ⟨v11, rfl, h11, b11⟩
              obtain ⟨A11, c11, rfl⟩ := h11.shape
              have hul := S9.out.ok.used_len
              have hlm9 := S9.out.ok.len_most
              rw [HL9.out] at hul hlm9
              rw [M9.out] at hlm9
              have B11 := Lib.hid (B9.out.trans (b11.mono B9.out.size))
              have S11 := Lib.hid (S9.out.below b11)
              obtain ⟨bb, hbb⟩ : ∃ bb, bb = w9.heap.size := ⟨_, rfl⟩
              rw [← hbb] at h11
              have H11 := Lib.hid h11
              have HUL := Lib.hid hul
              clear h11 b11 hul hbb
              rw [HUL.out]
              go_wp2_with fail
              go_loopw [16] (fun i wr => IL w p bb s9 (.slice A11 L9 c11) i wr) (fun i _ => L9 - (intOf i).toNat)
              case atStart => exact ⟨0, Nat.zero_le _, rfl, S11.out, by have := H11.out; rw [HUL.out] at this; exact this, B11.out⟩
              case round =>
                obtain ⟨t, ht, rfl, s12, h12, b12⟩ := hrel
                have S12 := Lib.hid s12
                have H12 := Lib.hid h12
                have B12 := Lib.hid b12
                rw [HUL.out] at ht
                by_cases hlt4 : t < L9
                · have htu : t < s9.used.length := by rw [HUL.out]; exact hlt4
                  obtain ⟨gu, rfl, _, cu⟩ := h12.cellAt rfl t htu
                  have hhu := St.used_has t htu
                  obtain ⟨u, hu⟩ : ∃ u, u = s9.used.getD t 0 := ⟨_, rfl⟩
                  rw [← hu] at cu hhu
                  have HHU := Lib.hid hhu
                  have u1 : (0 : Int) ≤ (t : Int) := by omega
                  have u2 : (t : Int) < (L9 : Int) := by omega
                  cases t with
                  | zero =>
                    clear s12 h12 b12 hhu hu
                    go_wp2_with fail
                    with_reducible refine (at_slo S12.out u).mono ?_
                    rintro e w13 ⟨rfl, rfl⟩
                    rw [HHU.out]
                    go_wp2_with fail
                    go_quiet (fail)
                    go_wp2_with fail
                    go_roundw
                    case rel => exact ⟨0 + 1, by rw [HUL.out]; omega, rfl, S12.out.drewN nq, H12.out.drewN nq, s_below_drewN B12.out nq⟩
                    case measure => simp [intOf]; omega
                  | succ t =>
                    obtain ⟨gv, hgv, _, cv⟩ := h12.cellAt rfl t (by omega)
                    obtain rfl : gv = gu := by injection hgv with hgv; injection hgv with hgv; exact hgv.symm
                    have hri := St.used_rising (s := s9) (t + 1) (by omega) htu
                    rw [← hu, Nat.add_sub_cancel] at hri
                    obtain ⟨v, hv⟩ : ∃ v, v = s9.used.getD t 0 := ⟨_, rfl⟩
                    rw [← hv] at cv hri
                    have e9 : ((t + 1 : Nat) : Int) = (t : Int) + 1 := by omega
                    rw [e9] at u1 u2 ⊢
                    have u3 : (0 : Int) ≤ (t : Int) := by omega
                    have u4 : (t : Int) < (L9 : Int) := by omega
                    have u5 : decide (u ≤ v) = false := decide_eq_false (by omega)
                    have u6 : decide (0 < (t : Int) + 1) = true := decide_eq_true (by omega)
                    clear s12 h12 b12 hhu hu hv e9
                    go_wp2_with fail
                    with_reducible refine (at_slo S12.out u).mono ?_
                    rintro e w13 ⟨rfl, rfl⟩
                    rw [HHU.out]
                    go_wp2_with fail
                    go_quiet (fail)
                    go_wp2_with fail
                    go_roundw
                    case rel => exact ⟨t + 1 + 1, by rw [HUL.out]; omega, by go_num, S12.out.drewN nq, H12.out.drewN nq, s_below_drewN B12.out nq⟩
                    case measure => simp [intOf]; omega
                · obtain rfl : t = L9 := by omega
                  have hn2 := HN.out
                  have hLL : ((t : Int) != (t : Int)) = false := by simp
                  clear s12 h12 b12
                  go_wp2_with fail
                  with_reducible refine (len_slo S12.out).mono ?_
                  rintro e w13 ⟨rfl, rfl⟩
                  rw [HL9.out]
                  go_wp2_with fail
                  go_roundw
                  case rel => exact ⟨k + 1, s9, t, hlt2, by go_num, rfl, HL9.out, S12.out, M9.out, B12.out⟩
                  case measure => simp [intOf]; omega
      · go_wp2_with fail
        go_ret
        exact ⟨rfl, B3.out⟩
  · go_wp2_with fail
    go_ret
    exact ⟨rfl, B1.out⟩

end Go.Proofs.Ytjcmbddiffebhaa
