/-
  SlotsApart's walk: no two things have one place.
-/
import Derived.Test.YtjcmbddiffebhaaSloF
namespace Go.Proofs.Ytjcmbddiffebhaa
open Go.RowKit

/-- the row of numbers tells what is in each place, -1 where there is nothing -/
def Agree (s : St) (Wh : List Int) (n : Nat) : Prop :=
  ∀ j : Nat, j < n → (s.has j = true → 0 ≤ s.get j ∧ Wh.getD j 0 = s.get j) ∧ (s.has j = false → Wh.getD j 0 = -1)

theorem agree_take {s : St} {Wh : List Int} {n : Nat} (h : Agree s Wh n) (ok : s.Ok) (hm : s.most = n) (hl : Wh.length = n) (hf : s.full = false) (k : Nat) : Agree (s.take k) (Wh.set s.spot k) n := by
  obtain ⟨h1, h2, h3, h4, h5⟩ := ok.take_at hf k
  intro j hj
  rw [getD_set _ _ _ _ _ (by omega)]
  by_cases e : j = s.spot
  · subst e
    rw [if_pos rfl, h3, h4]
    exact ⟨fun _ => ⟨by omega, rfl⟩, fun h => absurd h (by decide)⟩
  · rw [if_neg e, (h5 j e).1, (h5 j e).2]
    exact h j hj

theorem agree_give {s : St} {Wh : List Int} {n i : Nat} (h : Agree s Wh n) (hl : Wh.length = n) (hi : i < n) (hh : s.has i = true) : Agree (s.give i) (Wh.set i (-1)) n := by
  obtain ⟨h1, h2⟩ := St.give_at hh
  intro j hj
  rw [getD_set _ _ _ _ _ (by omega)]
  by_cases e : j = i
  · subst e
    rw [if_pos rfl, h1]
    exact ⟨fun h => absurd h (by decide), fun _ => rfl⟩
  · rw [if_neg e, (h2 j e).1, (h2 j e).2]
    exact h j hj

theorem agree_new (n : Nat) (Wh : List Int) (h : ∀ t, t < n → Wh.getD t 0 = -1) : Agree ⟨[], [], n⟩ Wh n := by
  intro j hj
  have : St.has ⟨[], [], n⟩ (j : Int) = false := by simp [St.has]
  rw [this]
  exact ⟨fun h => absurd h (by decide), fun _ => h j hj⟩

def FL (w : World) (p g n : Nat) (i : Value) (wr : World) : Prop :=
  ∃ (j : Nat) (Wh : List Int), j ≤ n ∧ i = .int .i64 j ∧ Row wr g n Wh ∧ (∀ t, t < j → Wh.getD t 0 = -1) ∧ Slo wr p ⟨[], [], n⟩ ∧ Below w.heap.size w wr
def PL (w : World) (p g n m : Nat) (i : Value) (wr : World) : Prop :=
  ∃ (k : Nat) (s : St) (Wh : List Int), k ≤ m ∧ i = .int .i64 k ∧ Slo wr p s ∧ s.most = n ∧ Row wr g n Wh ∧ Agree s Wh n ∧ Below w.heap.size w wr
def CL (w9 : World) (s : St) (n : Nat) (c i : Value) (wr : World) : Prop :=
  ∃ j : Nat, j ≤ n ∧ i = .int .i64 j ∧ c = .int .i64 (s.cnt j) ∧ wr = w9

set_option maxHeartbeats 4000000 in
set_option maxRecDepth 100000 in
theorem apart09_walk (most : Int) (A : Option Addr) (c : Nat) (Z : List (Int × Int × Int)) (w : World) (hZ : Z.length ≤ 9223372036854775807) (hr : ReadsB w A Z) :
    Calls Try.prog 4 #[.int .i64 most, .slice A Z.length c] w (TrueNewS w) := by
  have HR := Lib.hid hr
  clear hr
  obtain ⟨n, hn, hn31⟩ := and_31 most
  go_enter Try.func4, Try.ntmps4
  go_wp2_with fail
  with_reducible refine (awake09 w).mono ?_
  rintro e w1 ⟨rfl, b1⟩
  have B1 := Lib.hid b1
  clear b1
  by_cases hlen : Z.length ≤ 100
  · go_wp2_with fail
    with_reducible refine (new_slo (n : Int)).mono ?_
    rintro e w2 ⟨rfl, s2, b2⟩
    rw [kap_of n (by omega)] at s2
    obtain ⟨p, hp⟩ : ∃ p, p = w1.heap.size := ⟨_, rfl⟩
    have hwp : w.heap.size ≤ p := by rw [hp]; exact B1.out.size
    have B2 := Lib.hid (B1.out.trans (b2.mono B1.out.size))
    rw [← hp] at s2 ⊢
    have hk := mk22 n (by omega) w2
    have hn2 := hn
    have HN := Lib.hid hn2
    have B3 := Lib.hid (B2.out.alloc B2.out.size (.cells (madeCells #[.int .i64 0] n) 3))
    have R3 := Lib.hid (row_made w2 n (by omega))
    have S3 := Lib.hid (s2.below ((Below.refl _ w2).alloc (Nat.le_refl _) (.cells (madeCells #[.int .i64 0] n) 3)))
    clear s2 b2 hp hn2
    go_wp2_with fail
    obtain ⟨w3, hw3⟩ : ∃ w3, w3 = w2.alloc (.cells (madeCells #[.int .i64 0] n) 3) := ⟨_, rfl⟩
    obtain ⟨g, hg⟩ : ∃ g, g = w2.heap.size := ⟨_, rfl⟩
    have hwg : w.heap.size ≤ g := by rw [hg]; exact B2.out.size
    rw [← hw3, ← hg] at R3
    rw [← hw3] at B3 S3 ⊢
    rw [← hg]
    clear hk hw3 hg hn
    go_loopw [9] (fun i wr => FL w p g n i wr) (fun i _ => n - (intOf i).toNat)
    case atStart => exact ⟨0, _, Nat.zero_le _, rfl, R3.out, fun t ht => by omega, S3.out, B3.out⟩
    case round =>
      obtain ⟨j, Wh, hj, rfl, r4, f4, s4, b4⟩ := hrel
      have R4 := Lib.hid r4
      have F4 := Lib.hid f4
      have S4 := Lib.hid s4
      have B4 := Lib.hid b4
      by_cases hlt : j < n
      · have c4 := r4.cell j hlt
        have z4 := r4.frozen j
        obtain ⟨y, hy⟩ : ∃ y, y = Wh.getD j 0 := ⟨_, rfl⟩
        rw [← hy] at c4
        have g1 : (0 : Int) ≤ (j : Int) := by omega
        have g2 : (j : Int) < (n : Int) := by omega
        clear r4 f4 s4 b4 hy
        go_wp2_with fail
        go_roundw
        case rel => exact ⟨j + 1, Wh.set j (-1), hlt, by go_num, R4.out.set j (-1), fun t ht => by
          rw [getD_set _ _ _ _ _ (by rw [R4.out.2]; exact hlt)]
          by_cases e : t = j
          · rw [if_pos e]
          · rw [if_neg e]; exact F4.out t (by omega), R4.out.slo S4.out j (-1), B4.out.setCell hwg _⟩
        case measure => simp [intOf]; omega
      · obtain rfl : j = n := by omega
        clear r4 f4 s4 b4
        go_wp2_with fail
        go_loopw [10] (fun i wr => PL w p g j Z.length i wr) (fun i _ => Z.length - (intOf i).toNat)
        case atStart => exact ⟨0, _, Wh, Nat.zero_le _, rfl, S4.out, rfl, R4.out, agree_new j Wh F4.out, B4.out⟩
        case round =>
          obtain ⟨k, s, Wk, hk, rfl, s5, hm5, r5, g5, b5⟩ := hrel
          have S5 := Lib.hid s5
          have R5 := Lib.hid r5
          have G5 := Lib.hid g5
          have B5 := Lib.hid b5
          have M5 := Lib.hid hm5
          have OK := Lib.hid s5.ok
          clear s5 r5 g5 b5 hm5
          by_cases hlt2 : k < Z.length
          · obtain ⟨b, off, rfl, hb, hc0, hc1, hc2⟩ := HR.out k hlt2
            have e0 := (B5.out.cell (p := ⟨b, off + k * 3, none⟩) hb).trans hc0
            have e1 := (B5.out.cell (p := ⟨b, off + k * 3 + 1, none⟩) hb).trans hc1
            obtain ⟨⟨wh, x, y⟩, hx⟩ : ∃ a, a = Z.getD k (0, 0, 0) := ⟨_, rfl⟩
            rw [← hx] at e0 e1
            obtain ⟨ι, hι, hι31⟩ := and_31 x
            have g1 : (0 : Int) ≤ (k : Int) := by omega
            have g2 : (k : Int) < (Z.length : Int) := by omega
            clear hc0 hc1 hc2 hx
            by_cases hwh : wh = 0
            · have hw0 : (wh == 0) = true := by simp [hwh]
              have HWH := Lib.hid hwh
              clear hwh
              go_wp2_with fail
              with_reducible refine (take_slo S5.out (k : Int)).mono ?_
              rintro e w6 ⟨rfl, s6, k6⟩
              have B6 := Lib.hid (sk_below k6 B5.out hwp)
              have R6 := Lib.hid (R5.out.skept k6)
              cases hf : s.full with
              | true =>
                have ht : s.take k = s := by simp [St.take, hf]
                have hi : takeI s = 0 := by simp [takeI, hf]
                rw [ht] at s6
                rw [hi]
                obtain ⟨w9, rfl⟩ : ∃ w9, w9 = w6 := ⟨_, rfl⟩
                obtain ⟨s9, hs9⟩ : ∃ s9, s9 = s := ⟨_, rfl⟩
                obtain ⟨W9, hW9⟩ : ∃ W9, W9 = Wk := ⟨_, rfl⟩
                have S9 := Lib.hid (show Slo w9 p s9 by rw [hs9]; exact s6)
                have R9 := Lib.hid (show Row w9 g j W9 by rw [hW9]; exact R6.out)
                have G9 := Lib.hid (show Agree s9 W9 j by rw [hs9, hW9]; exact G5.out)
                have M9 := Lib.hid (show s9.most = j by rw [hs9]; exact M5.out)
                have B9 := Lib.hid B6.out
                clear s6 k6 hf ht hi e0 e1 hs9 hW9
                go_wp2_with fail
                clear R5 G5 B5 M5 OK R6 B6
                go_loopw [14, 15] (fun c i wr => CL w9 s9 j c i wr) (fun _ i _ => j - (intOf i).toNat)
                case atStart => exact ⟨0, Nat.zero_le _, rfl, rfl, rfl⟩
                case round =>
                  obtain ⟨t, ht, rfl, rfl, rfl⟩ := hrel
                  by_cases hlt4 : t < j
                  · have ct := R9.out.cell t hlt4
                    have hcs := St.cnt_succ (s := s9) t
                    have hcl := St.cnt_le (s := s9) t
                    have u1 : (0 : Int) ≤ (t : Int) := by omega
                    have u2 : (t : Int) < (j : Int) := by omega
                    cases hht : s9.has t with
                    | true =>
                      obtain ⟨q0, q1⟩ := (G9.out t hlt4).1 hht
                      rw [q1] at ct
                      rw [hht, if_pos rfl] at hcs
                      obtain ⟨v, hv⟩ : ∃ v, v = s9.get t := ⟨_, rfl⟩
                      rw [← hv] at q0 ct
                      have HV := Lib.hid hv
                      have HH := Lib.hid hht
                      have HC := Lib.hid hcs
                      have hvv : (v != v) = false := by simp
                      clear q1 hv hht hcs
                      go_wp2_with fail
                      with_reducible refine (at_slo S9.out (t : Int)).mono ?_
                      rintro e w10 ⟨rfl, rfl⟩
                      rw [HH.out, ← HV.out]
                      go_wp2_with fail
                      go_roundw
                      case rel => exact ⟨t + 1, hlt4, by go_num, by rw [HC.out]; go_num, rfl⟩
                      case measure => simp [intOf]; omega
                    | false =>
                      have q1 := (G9.out t hlt4).2 hht
                      rw [q1] at ct
                      rw [hht, if_neg (by simp)] at hcs
                      have HH := Lib.hid hht
                      have HC := Lib.hid hcs
                      clear q1 hht hcs
                      go_wp2_with fail
                      with_reducible refine (at_slo S9.out (t : Int)).mono ?_
                      rintro e w10 ⟨rfl, rfl⟩
                      rw [HH.out]
                      go_wp2_with fail
                      go_roundw
                      case rel => exact ⟨t + 1, hlt4, by go_num, by rw [HC.out], rfl⟩
                      case measure => simp [intOf]; omega
                  · obtain rfl : t = j := by omega
                    have hcl := S9.out.ok.cnt_len
                    rw [M9.out] at hcl
                    have hbb : ((s9.len : Int) != (s9.len : Int)) = false := by simp
                    go_wp2_with fail
                    with_reducible refine (len_slo S9.out).mono ?_
                    rintro e w10 ⟨rfl, rfl⟩
                    rw [hcl]
                    clear hcl
                    go_wp2_with fail
                    go_roundw
                    case rel => exact ⟨k + 1, s9, W9, hlt2, by go_num, S9.out, M9.out, R9.out, G9.out, B9.out⟩
                    case measure => simp [intOf]; omega
              | false =>
                obtain ⟨t1, t2, t3, t4, t5⟩ := OK.out.take_at hf (k : Int)
                have hi : takeI s = s.spot := by simp [takeI, hf]
                rw [hi]
                have ha := (G5.out s.spot (by rw [← M5.out]; exact t1)).2 t2
                have hag := Lib.hid (agree_take G5.out OK.out M5.out R5.out.2 hf k)
                have hmm := Lib.hid ((St.take_most (s := s) (k : Int)).trans M5.out)
                have hsp : s.spot < j := by rw [← M5.out]; exact t1
                obtain ⟨a, hsa⟩ : ∃ a, a = s.spot := ⟨_, rfl⟩
                rw [← hsa] at ha hag hsp ⊢
                have c6 := R6.out.cell a hsp
                rw [ha] at c6
                have z6 := R6.out.frozen a
                have S9 := Lib.hid (R6.out.slo s6 a (k : Int))
                have R9 := Lib.hid (R6.out.set a (k : Int))
                have G9 := hag
                have M9 := hmm
                have B9 := Lib.hid (B6.out.setCell (p := ⟨g, a, none⟩) hwg (.int .i64 k))
                obtain ⟨s9, hs9⟩ : ∃ s9, s9 = s.take k := ⟨_, rfl⟩
                obtain ⟨W9, hW9⟩ : ∃ W9, W9 = Wk.set a k := ⟨_, rfl⟩
                rw [← hs9] at S9 G9 M9
                rw [← hW9] at R9 G9
                have a1 : (0 : Int) ≤ (a : Int) := by omega
                have a2 : (a : Int) < (j : Int) := by omega
                have d1 : decide ((a : Int) < 0) = false := decide_eq_false (by omega)
                have d2 : decide (j ≤ a) = false := decide_eq_false (by omega)
                clear s6 k6 hf t1 t2 t3 t4 t5 hi ha hag hmm e0 e1 hs9 hW9 hsa
                go_wp2_with fail
                obtain ⟨w9, hw9⟩ : ∃ w9, w9 = w6.setCell ⟨g, a, none⟩ (.int .i64 k) := ⟨_, rfl⟩
                rw [← hw9] at S9 R9 B9 ⊢
                clear hw9 c6 z6
                clear R5 G5 B5 M5 OK R6 B6
                go_loopw [14, 15] (fun c i wr => CL w9 s9 j c i wr) (fun _ i _ => j - (intOf i).toNat)
                case atStart => exact ⟨0, Nat.zero_le _, rfl, rfl, rfl⟩
                case round =>
                  obtain ⟨t, ht, rfl, rfl, rfl⟩ := hrel
                  by_cases hlt4 : t < j
                  · have ct := R9.out.cell t hlt4
                    have hcs := St.cnt_succ (s := s9) t
                    have hcl := St.cnt_le (s := s9) t
                    have u1 : (0 : Int) ≤ (t : Int) := by omega
                    have u2 : (t : Int) < (j : Int) := by omega
                    cases hht : s9.has t with
                    | true =>
                      obtain ⟨q0, q1⟩ := (G9.out t hlt4).1 hht
                      rw [q1] at ct
                      rw [hht, if_pos rfl] at hcs
                      obtain ⟨v, hv⟩ : ∃ v, v = s9.get t := ⟨_, rfl⟩
                      rw [← hv] at q0 ct
                      have HV := Lib.hid hv
                      have HH := Lib.hid hht
                      have HC := Lib.hid hcs
                      have hvv : (v != v) = false := by simp
                      clear q1 hv hht hcs
                      go_wp2_with fail
                      with_reducible refine (at_slo S9.out (t : Int)).mono ?_
                      rintro e w10 ⟨rfl, rfl⟩
                      rw [HH.out, ← HV.out]
                      go_wp2_with fail
                      go_roundw
                      case rel => exact ⟨t + 1, hlt4, by go_num, by rw [HC.out]; go_num, rfl⟩
                      case measure => simp [intOf]; omega
                    | false =>
                      have q1 := (G9.out t hlt4).2 hht
                      rw [q1] at ct
                      rw [hht, if_neg (by simp)] at hcs
                      have HH := Lib.hid hht
                      have HC := Lib.hid hcs
                      clear q1 hht hcs
                      go_wp2_with fail
                      with_reducible refine (at_slo S9.out (t : Int)).mono ?_
                      rintro e w10 ⟨rfl, rfl⟩
                      rw [HH.out]
                      go_wp2_with fail
                      go_roundw
                      case rel => exact ⟨t + 1, hlt4, by go_num, by rw [HC.out], rfl⟩
                      case measure => simp [intOf]; omega
                  · obtain rfl : t = j := by omega
                    have hcl := S9.out.ok.cnt_len
                    rw [M9.out] at hcl
                    have hbb : ((s9.len : Int) != (s9.len : Int)) = false := by simp
                    go_wp2_with fail
                    with_reducible refine (len_slo S9.out).mono ?_
                    rintro e w10 ⟨rfl, rfl⟩
                    rw [hcl]
                    clear hcl
                    go_wp2_with fail
                    go_roundw
                    case rel => exact ⟨k + 1, s9, W9, hlt2, by go_num, S9.out, M9.out, R9.out, G9.out, B9.out⟩
                    case measure => simp [intOf]; omega
            · have hw0 : (wh == 0) = false := by simp [hwh]
              have HWH := Lib.hid hwh
              clear hwh
              go_wp2_with fail
              with_reducible refine (give_slo S5.out (ι : Int)).mono ?_
              rintro e w6 ⟨rfl, s6, k6⟩
              have B6 := Lib.hid (sk_below k6 B5.out hwp)
              have R6 := Lib.hid (R5.out.skept k6)
              cases hh : s.has ι with
              | false =>
                have ht : s.give ι = s := by simp [St.give, hh]
                rw [ht] at s6
                obtain ⟨w9, rfl⟩ : ∃ w9, w9 = w6 := ⟨_, rfl⟩
                obtain ⟨s9, hs9⟩ : ∃ s9, s9 = s := ⟨_, rfl⟩
                obtain ⟨W9, hW9⟩ : ∃ W9, W9 = Wk := ⟨_, rfl⟩
                have S9 := Lib.hid (show Slo w9 p s9 by rw [hs9]; exact s6)
                have R9 := Lib.hid (show Row w9 g j W9 by rw [hW9]; exact R6.out)
                have G9 := Lib.hid (show Agree s9 W9 j by rw [hs9, hW9]; exact G5.out)
                have M9 := Lib.hid (show s9.most = j by rw [hs9]; exact M5.out)
                have B9 := Lib.hid B6.out
                clear s6 k6 hh ht e0 e1 hs9 hW9
                go_wp2_with fail
                clear R5 G5 B5 M5 OK R6 B6
                go_loopw [14, 15] (fun c i wr => CL w9 s9 j c i wr) (fun _ i _ => j - (intOf i).toNat)
                case atStart => exact ⟨0, Nat.zero_le _, rfl, rfl, rfl⟩
                case round =>
                  obtain ⟨t, ht, rfl, rfl, rfl⟩ := hrel
                  by_cases hlt4 : t < j
                  · have ct := R9.out.cell t hlt4
                    have hcs := St.cnt_succ (s := s9) t
                    have hcl := St.cnt_le (s := s9) t
                    have u1 : (0 : Int) ≤ (t : Int) := by omega
                    have u2 : (t : Int) < (j : Int) := by omega
                    cases hht : s9.has t with
                    | true =>
                      obtain ⟨q0, q1⟩ := (G9.out t hlt4).1 hht
                      rw [q1] at ct
                      rw [hht, if_pos rfl] at hcs
                      obtain ⟨v, hv⟩ : ∃ v, v = s9.get t := ⟨_, rfl⟩
                      rw [← hv] at q0 ct
                      have HV := Lib.hid hv
                      have HH := Lib.hid hht
                      have HC := Lib.hid hcs
                      have hvv : (v != v) = false := by simp
                      clear q1 hv hht hcs
                      go_wp2_with fail
                      with_reducible refine (at_slo S9.out (t : Int)).mono ?_
                      rintro e w10 ⟨rfl, rfl⟩
                      rw [HH.out, ← HV.out]
                      go_wp2_with fail
                      go_roundw
                      case rel => exact ⟨t + 1, hlt4, by go_num, by rw [HC.out]; go_num, rfl⟩
                      case measure => simp [intOf]; omega
                    | false =>
                      have q1 := (G9.out t hlt4).2 hht
                      rw [q1] at ct
                      rw [hht, if_neg (by simp)] at hcs
                      have HH := Lib.hid hht
                      have HC := Lib.hid hcs
                      clear q1 hht hcs
                      go_wp2_with fail
                      with_reducible refine (at_slo S9.out (t : Int)).mono ?_
                      rintro e w10 ⟨rfl, rfl⟩
                      rw [HH.out]
                      go_wp2_with fail
                      go_roundw
                      case rel => exact ⟨t + 1, hlt4, by go_num, by rw [HC.out], rfl⟩
                      case measure => simp [intOf]; omega
                  · obtain rfl : t = j := by omega
                    have hcl := S9.out.ok.cnt_len
                    rw [M9.out] at hcl
                    have hbb : ((s9.len : Int) != (s9.len : Int)) = false := by simp
                    go_wp2_with fail
                    with_reducible refine (len_slo S9.out).mono ?_
                    rintro e w10 ⟨rfl, rfl⟩
                    rw [hcl]
                    clear hcl
                    go_wp2_with fail
                    go_roundw
                    case rel => exact ⟨k + 1, s9, W9, hlt2, by go_num, S9.out, M9.out, R9.out, G9.out, B9.out⟩
                    case measure => simp [intOf]; omega
              | true =>
                have hlt3 := (St.has_lt hh).2.1
                have hιj : ι < j := by have := OK.out.le; have := M5.out; omega
                obtain ⟨q0, q1⟩ := (G5.out ι hιj).1 hh
                have c6 := R6.out.cell ι hιj
                rw [q1] at c6
                obtain ⟨v, hv⟩ : ∃ v, v = s.get ι := ⟨_, rfl⟩
                rw [← hv] at q0 c6
                have z6 := R6.out.frozen ι
                have S9 := Lib.hid (R6.out.slo s6 ι (-1))
                have R9 := Lib.hid (R6.out.set ι (-1))
                have G9 := Lib.hid (agree_give G5.out R5.out.2 hιj hh)
                have M9 := Lib.hid ((St.give_most (s := s) (ι : Int)).trans M5.out)
                have B9 := Lib.hid (B6.out.setCell (p := ⟨g, ι, none⟩) hwg (.int .i64 (-1)))
                obtain ⟨s9, hs9⟩ : ∃ s9, s9 = s.give ι := ⟨_, rfl⟩
                obtain ⟨W9, hW9⟩ : ∃ W9, W9 = Wk.set ι (-1) := ⟨_, rfl⟩
                rw [← hs9] at S9 G9 M9
                rw [← hW9] at R9 G9
                have a1 : (0 : Int) ≤ (ι : Int) := by omega
                have a2 : (ι : Int) < (j : Int) := by omega
                have d1 : decide (v < 0) = false := decide_eq_false (by omega)
                have d2 : decide (j ≤ ι) = false := decide_eq_false (by omega)
                clear s6 k6 hh hlt3 q1 hv e0 e1 hs9 hW9
                go_wp2_with fail
                obtain ⟨w9, hw9⟩ : ∃ w9, w9 = w6.setCell ⟨g, ι, none⟩ (.int .i64 (-1)) := ⟨_, rfl⟩
                rw [← hw9] at S9 R9 B9 ⊢
                clear hw9 c6 z6
                clear R5 G5 B5 M5 OK R6 B6
                go_loopw [14, 15] (fun c i wr => CL w9 s9 j c i wr) (fun _ i _ => j - (intOf i).toNat)
                case atStart => exact ⟨0, Nat.zero_le _, rfl, rfl, rfl⟩
                case round =>
                  obtain ⟨t, ht, rfl, rfl, rfl⟩ := hrel
                  by_cases hlt4 : t < j
                  · have ct := R9.out.cell t hlt4
                    have hcs := St.cnt_succ (s := s9) t
                    have hcl := St.cnt_le (s := s9) t
                    have u1 : (0 : Int) ≤ (t : Int) := by omega
                    have u2 : (t : Int) < (j : Int) := by omega
                    cases hht : s9.has t with
                    | true =>
                      obtain ⟨q0, q1⟩ := (G9.out t hlt4).1 hht
                      rw [q1] at ct
                      rw [hht, if_pos rfl] at hcs
                      obtain ⟨v, hv⟩ : ∃ v, v = s9.get t := ⟨_, rfl⟩
                      rw [← hv] at q0 ct
                      have HV := Lib.hid hv
                      have HH := Lib.hid hht
                      have HC := Lib.hid hcs
                      have hvv : (v != v) = false := by simp
                      clear q1 hv hht hcs
                      go_wp2_with fail
                      with_reducible refine (at_slo S9.out (t : Int)).mono ?_
                      rintro e w10 ⟨rfl, rfl⟩
                      rw [HH.out, ← HV.out]
                      go_wp2_with fail
                      go_roundw
                      case rel => exact ⟨t + 1, hlt4, by go_num, by rw [HC.out]; go_num, rfl⟩
                      case measure => simp [intOf]; omega
                    | false =>
                      have q1 := (G9.out t hlt4).2 hht
                      rw [q1] at ct
                      rw [hht, if_neg (by simp)] at hcs
                      have HH := Lib.hid hht
                      have HC := Lib.hid hcs
                      clear q1 hht hcs
                      go_wp2_with fail
                      with_reducible refine (at_slo S9.out (t : Int)).mono ?_
                      rintro e w10 ⟨rfl, rfl⟩
                      rw [HH.out]
                      go_wp2_with fail
                      go_roundw
                      case rel => exact ⟨t + 1, hlt4, by go_num, by rw [HC.out], rfl⟩
                      case measure => simp [intOf]; omega
                  · obtain rfl : t = j := by omega
                    have hcl := S9.out.ok.cnt_len
                    rw [M9.out] at hcl
                    have hbb : ((s9.len : Int) != (s9.len : Int)) = false := by simp
                    go_wp2_with fail
                    with_reducible refine (len_slo S9.out).mono ?_
                    rintro e w10 ⟨rfl, rfl⟩
                    rw [hcl]
                    clear hcl
                    go_wp2_with fail
                    go_roundw
                    case rel => exact ⟨k + 1, s9, W9, hlt2, by go_num, S9.out, M9.out, R9.out, G9.out, B9.out⟩
                    case measure => simp [intOf]; omega
          · go_wp2_with fail
            go_ret
            exact ⟨rfl, B5.out⟩
  · go_wp2_with fail
    go_ret
    exact ⟨rfl, B1.out⟩

end Go.Proofs.Ytjcmbddiffebhaa
