/-
  RecencyOrder's walk: others keep their order.
-/
import Derived.Test.YtjcmbddiffebhaaDrains
namespace Go.Proofs.Ytjcmbddiffebhaa
open Go.RowKit

def cnt (L : List Int) (x : Int) : Nat := L.count x

theorem wo_act {n : Nat} (L : List Int) (ob : Bool) (x : Int) : wo (act n L ob x) x = wo L x := by
  have h : wo (wo L x) x = wo L x := wo_not (fun h => (wo_sub.1 h).2 rfl)
  unfold act tch
  split
  · exact h
  · split
    · have : wo (x :: wo L x) x = wo (wo L x) x := by simp [wo]
      rw [this, h]
    · rfl

theorem cnt_wo (L : List Int) (x : Int) : cnt (wo L x) x = 0 := List.count_eq_zero.2 (fun h => (wo_sub.1 h).2 rfl)

theorem act_out (n : Nat) (L : List Int) (x : Int) : cnt (act n L true x) x = 0 := cnt_wo L x
theorem act_out_no {n : Nat} {L : List Int} {x : Int} (h : actB n L true x = false) : act n L true x = L := by
  simp only [actB, if_true, inB, decide_eq_false_iff_not] at h
  simp only [act, if_true]
  exact wo_not h
theorem act_in {n : Nat} {L : List Int} {x : Int} (h : actB n L false x = true) : act n L false x = x :: wo L x := by
  simp [actB, mayB] at h
  simp [act, tch, h]
theorem act_in_no {n : Nat} {L : List Int} {x : Int} (h : actB n L false x = false) : act n L false x = L := by
  simp [actB, mayB] at h
  simp only [act, Bool.false_eq_true, if_false, tch]
  rw [if_neg (by omega)]
theorem cnt_in {L : List Int} {x : Int} : cnt (x :: wo L x) x = 1 := by
  have := cnt_wo L x
  unfold cnt at this ⊢
  rw [List.count_cons_self, this]
theorem cnt_no {n : Nat} {L : List Int} {x : Int} (g : Good n L) (h : actB n L false x = false) : cnt L x = 0 := by
  simp [actB, mayB] at h
  exact List.count_eq_zero.2 (fun hx => by have := g.2 x hx; omega)

/-- the second loop: all but one of what was -/
def OL2 (w2 : World) (L : List Int) (x : Int) (v i : Value) (wr : World) : Prop :=
  ∃ j : Nat, j ≤ L.length ∧ i = .int .i64 j ∧ Has wr w2.heap.size v (wo (L.take j) x) ∧ Below w2.heap.size w2 wr
/-- the third loop: all but one of what is, and how often that one stands -/
def OL3 (w2 : World) (L : List Int) (x : Int) (v c i : Value) (wr : World) : Prop :=
  ∃ j : Nat, j ≤ L.length ∧ i = .int .i64 j ∧ c = .int .i64 (cnt (L.take j) x) ∧ Has wr w2.heap.size v (wo (L.take j) x) ∧ Below w2.heap.size w2 wr

theorem wo_snoc_ne {L : List Int} {x y : Int} (h : y ≠ x) : wo (L ++ [y]) x = wo L x ++ [y] := by simp [wo, h]
theorem wo_snoc_eq {L : List Int} {x : Int} : wo (L ++ [x]) x = wo L x := by simp [wo]
theorem wo_le (L : List Int) (x : Int) : (wo L x).length ≤ L.length := List.length_filter_le _ _
theorem cnt_snoc_ne {L : List Int} {x y : Int} (h : y ≠ x) : cnt (L ++ [y]) x = cnt L x := by simp [cnt, List.count_append, h]
theorem cnt_snoc_eq {L : List Int} {x : Int} : cnt (L ++ [x]) x = cnt L x + 1 := by unfold cnt; rw [List.count_append]; simp

theorem ol2_keep {w2 wr : World} {L : List Int} {x y : Int} {v v1 : Value} {w1 : World} {j : Nat} (hj : j < L.length) (hy : y = L.getD j 0) (hne : y ≠ x)
    (h : Has wr w2.heap.size v (wo (L.take j) x)) (b : Below w2.heap.size w2 wr) (h1 : Has w1 w2.heap.size v1 (wo (L.take j) x ++ [y])) (hg : wr.grownBy w1 v.ownBlock) : OL2 w2 L x v1 (.int .i64 ((j : Int) + 1)) w1 :=
  ⟨j + 1, hj, by go_num, by rw [take_one L j hj, ← hy, wo_snoc_ne hne]; exact h1, b.grown hg b.size (fun g hg' => (h.ge g hg').1)⟩

theorem ol3_keep {w2 wr : World} {L : List Int} {x y : Int} {v v1 : Value} {w1 : World} {j : Nat} (hj : j < L.length) (hy : y = L.getD j 0) (hne : y ≠ x)
    (h : Has wr w2.heap.size v (wo (L.take j) x)) (b : Below w2.heap.size w2 wr) (h1 : Has w1 w2.heap.size v1 (wo (L.take j) x ++ [y])) (hg : wr.grownBy w1 v.ownBlock) :
    OL3 w2 L x v1 (.int .i64 (cnt (L.take j) x)) (.int .i64 ((j : Int) + 1)) w1 :=
  ⟨j + 1, hj, by go_num, by rw [take_one L j hj, ← hy, cnt_snoc_ne hne], by rw [take_one L j hj, ← hy, wo_snoc_ne hne]; exact h1, b.grown hg b.size (fun g hg' => (h.ge g hg').1)⟩

theorem dl1_end {w w1 : World} {lo n k : Nat} {Z : List (Bool × Int)} {L M : List Int} {ob : Bool} {x : Int} (hk : k < Z.length) (hx : (ob, x) = Z.getD k (false, 0)) (hl : L = acts n (Z.take k)) (hm : M = act n L ob x)
    (r : Rec w1 lo n M) (b : Below w.heap.size w w1) : DL1 w lo n Z (.int .i64 ((k : Int) + 1)) w1 :=
  ⟨k + 1, hk, by go_num, by rw [take_one' (false, 0) Z k hk, acts_snoc, ← hx, ← hl, ← hm]; exact r, b⟩

set_option maxHeartbeats 4000000 in
set_option maxRecDepth 100000 in
theorem order10_walk (most : Int) (A : Option Addr) (c : Nat) (Z : List (Bool × Int)) (w : World) (hZ : Z.length ≤ 9223372036854775807) (hr : ReadsA w A Z) :
    Calls Try.prog 7 #[.int .i64 most, .slice A Z.length c] w (TrueNew w) := by
  have HR := Lib.hid hr
  clear hr
  obtain ⟨n, hn, hn31⟩ := and_31 most
  go_enter Try.func7, Try.ntmps7
  go_wp2_with fail
  with_reducible refine (awake10 w).mono ?_
  rintro e w1 ⟨rfl, b1⟩
  have B1 := Lib.hid b1
  clear b1
  by_cases hlen : Z.length ≤ 100
  · go_wp2_with fail
    with_reducible refine (new_rec n w1).mono ?_
    rintro e w2 ⟨rfl, r2, b2, s2⟩
    rw [clamp_of n (by omega)] at r2
    have B2 := Lib.hid (B1.out.trans (b2.mono B1.out.size))
    have HN := Lib.hid hn
    obtain ⟨lo, hlo⟩ : ∃ lo, lo = w1.heap.size := ⟨_, rfl⟩
    have hwlo : w.heap.size ≤ lo := by rw [hlo]; exact B1.out.size
    rw [← hlo] at r2 ⊢
    have R2 := Lib.hid r2
    clear r2 b2 hn hlo s2
    go_wp2_with fail
    go_loopw [7] (fun i wr => DL1 w lo n Z i wr) (fun i _ => Z.length - (intOf i).toNat)
    case atStart => exact ⟨0, Nat.zero_le _, rfl, by simpa [acts] using R2.out, B2.out⟩
    case round =>
      obtain ⟨k, hk, rfl, r3, b3⟩ := hrel
      have R3 := Lib.hid r3
      have B3 := Lib.hid b3
      have hle := r3.le
      have g := Lib.hid hle.2.2
      have hL : (acts n (Z.take k)).length ≤ 1024 := by omega
      by_cases hlt : k < Z.length
      · obtain ⟨b, off, rfl, hb, hc0, hc1⟩ := HR.out k hlt
        obtain ⟨⟨ob, x⟩, hx⟩ : ∃ a, a = Z.getD k (false, 0) := ⟨_, rfl⟩
        rw [← hx] at hc0 hc1
        have HX := Lib.hid hx
        have hd0 := fun W (h : Below w.heap.size w W) => (h.cell (p := ⟨b, off + k * 2, none⟩) hb).trans hc0
        have hd1 := fun W (h : Below w.heap.size w W) => (h.cell (p := ⟨b, off + k * 2 + 1, none⟩) hb).trans hc1
        have D0 := Lib.hid hd0
        have D1 := Lib.hid hd1
        obtain ⟨L, hL'⟩ : ∃ L, L = acts n (Z.take k) := ⟨_, rfl⟩
        rw [← hL'] at R3 g hL
        have HL := Lib.hid hL'
        clear r3 b3 hc0 hc1 hx hd0 hd1 hle hL'
        have g1 : (0 : Int) ≤ (k : Int) := by omega
        have g2 : (k : Int) < (Z.length : Int) := by omega
        go_wp2_with fail
        with_reducible refine (order_rec R3.out).mono ?_
        rintro e w4 ⟨v4, rfl, h4, b4⟩
        have B4 := Lib.hid (B3.out.trans (b4.mono B3.out.size))
        have R4 := Lib.hid (R3.out.below b4)
        have s4 := R3.out.lt
        obtain ⟨A4, c4, rfl⟩ := h4.shape
        have H4 := Lib.hid (h4.mono s4)
        have e0 := D0.out w4 B4.out
        have e1 := D1.out w4 B4.out
        clear h4 b4 s4
        go_wp2_with fail
        with_reducible refine (do_rec R4.out ob x).mono ?_
        rintro e w5 ⟨rfl, r5, o5⟩
        have B5 := Lib.hid (in3_below o5 B4.out hwlo)
        have H5 := Lib.hid (H4.out.only o5 (fun j hj h => by have := (H4.out.ge j hj).1; have := h.2; omega))
        have hle5 := r5.le
        have g5 := Lib.hid hle5.2.2
        have hL5 : (act n L ob x).length ≤ 1024 := by omega
        obtain ⟨M, hM⟩ : ∃ M, M = act n L ob x := ⟨_, rfl⟩
        obtain ⟨ok, hok⟩ : ∃ ok, ok = actB n L ob x := ⟨_, rfl⟩
        rw [← hM] at r5 g5 hL5
        rw [← hok]
        have R5 := Lib.hid r5
        have HM := Lib.hid hM
        have HK := Lib.hid hok
        clear r5 o5 e0 e1 hle5 hM hok
        go_wp2_with fail
        with_reducible refine (order_rec R5.out).mono ?_
        rintro e w6 ⟨v6, rfl, h6, b6⟩
        have B6 := Lib.hid (B5.out.trans (b6.mono B5.out.size))
        have R6 := Lib.hid (R5.out.below b6)
        have H56 := Lib.hid (H5.out.below b6)
        obtain ⟨A6, c6, rfl⟩ := h6.shape
        have H6 := Lib.hid (h6.mono R5.out.lt)
        clear h6 b6
        go_wp2_with fail
        go_loopw [11, 13] (fun v i wr => OL2 w6 L x v i wr) (fun _ i _ => L.length - (intOf i).toNat)
        case atStart => exact ⟨0, Nat.zero_le _, rfl, Has.nil _ _, Below.refl _ _⟩
        case round =>
          obtain ⟨j, hj, rfl, hown, hbel⟩ := hrel
          have HO := Lib.hid hown
          have HB := Lib.hid hbel
          have HBW := Lib.hid (B6.out.trans (hbel.mono B6.out.size))
          have e1 := D1.out _ HBW.out
          by_cases hlt2 : j < L.length
          · obtain ⟨gw, rfl, hown4, hc4⟩ := (H56.out.below hbel).cellAt rfl j hlt2
            obtain ⟨y, hy⟩ : ∃ y, y = L.getD j 0 := ⟨_, rfl⟩
            rw [← hy] at hc4
            have HY := Lib.hid hy
            clear hown hbel hown4 hy
            have g3 : (0 : Int) ≤ (j : Int) := by omega
            have g4 : (j : Int) < (L.length : Int) := by omega
            by_cases hyx : y = x
            · have hb2 : (y != x) = false := by simp [hyx]
              have HYX := Lib.hid hyx
              clear hyx
              go_wp2_with fail
              go_quiet (fail)
              go_wp2_with fail
              go_roundw
              case rel => exact ⟨j + 1, hlt2, by go_num, by rw [take_one L j hlt2, ← HY.out, HYX.out, wo_snoc_eq]; exact HO.out.drewN nq, below_drewN HB.out nq⟩
              case measure => simp [intOf]; omega
            · have hb2 : (y != x) = true := by simp [hyx]
              have HYX := Lib.hid hyx
              clear hyx
              obtain ⟨Av, cv, rfl⟩ := HO.out.shape
              have hW7 := Lib.hid (show (wo (L.take j) x).length ≤ 1000000 by have := wo_le (L.take j) x; have := List.length_take_le' j L; omega)
              go_wp2_with fail
              go_quiet (fail)
              have HS7 := Lib.hid (show w6.heap.size ≤ (wr.drewN nq).heap.size from HB.out.size)
              have HZ7 := Lib.hid (show (wr.drewN nq).heap.size = wr.heap.size from rfl)
              go_wp2_with (at_builtin; refine app_int HZ7.out w6.heap.size rfl (.tmp 56) (.tmp 61) 22 rfl Try.underlying22 Try.info3 (.slice Av _ cv) (wo (L.take j) x) _ rfl rfl (HO.out.drewN nq) HS7.out hW7.out ?_; intro v1 w1 hown hg hat; have HN := Lib.hid hown; have HG := Lib.hid hg; clear hown hg hat)
              go_roundw
              case rel => exact ol2_keep hlt2 HY.out HYX.out (HO.out.drewN nq) (below_drewN HB.out nq) HN.out HG.out
              case measure => simp [intOf]; omega
          · obtain rfl : j = L.length := by omega
            rw [List.take_length] at hown
            obtain ⟨w7, rfl⟩ : ∃ w7 : World, w7 = wr := ⟨_, rfl⟩
            have HX7 := Lib.hid hown
            have R7 := Lib.hid (R6.out.below hbel)
            have HW7 := Lib.hid (H56.out.below hbel)
            have HI7 := Lib.hid (H6.out.below hbel)
            have BW7 := HBW
            clear hown hbel hlt2 hj e1 HO HBW HB
            go_wp2_with fail
            go_loopw [12, 14, 15] (fun v c i wr => OL3 w7 M x v c i wr) (fun _ _ i _ => M.length - (intOf i).toNat)
            case atStart => exact ⟨0, Nat.zero_le _, rfl, rfl, Has.nil _ _, Below.refl _ _⟩
            case round =>
              obtain ⟨j, hj, rfl, rfl, hown, hbel⟩ := hrel
              have HO := Lib.hid hown
              have HB := Lib.hid hbel
              have BW8 := Lib.hid (BW7.out.trans (hbel.mono BW7.out.size))
              have e1 := D1.out _ BW8.out
              have hcn : cnt (M.take j) x ≤ 1024 := Nat.le_trans (List.count_le_length) (by have := List.length_take_le' j M; omega)
              by_cases hlt2 : j < M.length
              · obtain ⟨gw, rfl, hown4, hc4⟩ := (HI7.out.below hbel).cellAt rfl j hlt2
                obtain ⟨y, hy⟩ : ∃ y, y = M.getD j 0 := ⟨_, rfl⟩
                rw [← hy] at hc4
                have HY := Lib.hid hy
                clear hown hbel hown4 hy
                have g3 : (0 : Int) ≤ (j : Int) := by omega
                have g4 : (j : Int) < (M.length : Int) := by omega
                by_cases hyx : y = x
                · have hb2 : (y != x) = false := by simp [hyx]
                  have HYX := Lib.hid hyx
                  clear hyx
                  go_wp2_with fail
                  go_quiet (fail)
                  go_wp2_with fail
                  go_roundw
                  case rel => exact ⟨j + 1, hlt2, by go_num, by rw [take_one M j hlt2, ← HY.out, HYX.out, cnt_snoc_eq]; go_num, by rw [take_one M j hlt2, ← HY.out, HYX.out, wo_snoc_eq]; exact HO.out.drewN nq, below_drewN HB.out nq⟩
                  case measure => simp [intOf]; omega
                · have hb2 : (y != x) = true := by simp [hyx]
                  have HYX := Lib.hid hyx
                  clear hyx
                  obtain ⟨Av, cv, rfl⟩ := HO.out.shape
                  have hW7 := Lib.hid (show (wo (M.take j) x).length ≤ 1000000 by have := wo_le (M.take j) x; have := List.length_take_le' j M; omega)
                  go_wp2_with fail
                  go_quiet (fail)
                  have HS7 := Lib.hid (show w7.heap.size ≤ (wr.drewN nq).heap.size from HB.out.size)
                  have HZ7 := Lib.hid (show (wr.drewN nq).heap.size = wr.heap.size from rfl)
                  go_wp2_with (at_builtin; refine app_int HZ7.out w7.heap.size rfl (.tmp 79) (.tmp 84) 22 rfl Try.underlying22 Try.info3 (.slice Av _ cv) (wo (M.take j) x) _ rfl rfl (HO.out.drewN nq) HS7.out hW7.out ?_; intro v1 w1 hown hg hat; have HN := Lib.hid hown; have HG := Lib.hid hg; clear hown hg hat)
                  go_roundw
                  case rel => exact ol3_keep hlt2 HY.out HYX.out (HO.out.drewN nq) (below_drewN HB.out nq) HN.out HG.out
                  case measure => simp [intOf]; omega
              · obtain rfl : j = M.length := by omega
                rw [List.take_length] at hown ⊢
                have HY8 := Lib.hid hown
                have HX8 := Lib.hid (HX7.out.below hbel)
                have HW8 := Lib.hid (HW7.out.below hbel)
                have HI8 := Lib.hid (HI7.out.below hbel)
                have R8 := Lib.hid (R7.out.below hbel)
                have e0 := D0.out _ BW8.out
                have EQ := Lib.hid (show eqB (wo L x) (wo M x) = true by rw [HM.out, wo_act]; simp [eqB])
                clear hown hbel hlt2 hj hcn HO HB
                cases ob with
                | true =>
                  have ec : ((cnt M x : Nat) : Int) = 0 := by rw [HM.out, act_out]; rfl
                  rw [ec]
                  clear ec
                  cases ok with
                  | true =>
                    go_wp2_with fail
                    go_quiet ((go_at_call 17; exact Calls.quiet_of (ints_eq (HX8.out.drewN _) (HY8.out.drewN _) EQ.out)))
                    go_wp2_with fail
                    go_roundw
                    case rel => exact dl1_end hlt HX.out HL.out HM.out (R8.out.drewN nq) (below_drewN BW8.out nq)
                    case measure => simp [intOf]; omega
                  | false =>
                    have EQ2 := Lib.hid (show eqB L M = true by rw [HM.out, act_out_no HK.out.symm]; simp [eqB])
                    go_wp2_with fail
                    go_quiet (first | (go_at_call 17; with_reducible exact Calls.quiet_of (ints_eq (HX8.out.drewN _) (HY8.out.drewN _) EQ.out)) | (go_at_call 17; with_reducible exact Calls.quiet_of (ints_eq (HW8.out.drewN _) (HI8.out.drewN _) EQ2.out)))
                    go_wp2_with fail
                    go_roundw
                    case rel => exact dl1_end hlt HX.out HL.out HM.out (R8.out.drewN nq) (below_drewN BW8.out nq)
                    case measure => simp [intOf]; omega
                | false =>
                  cases ok with
                  | true =>
                    have ec : ((cnt M x : Nat) : Int) = 1 := by rw [HM.out, act_in HK.out.symm, cnt_in]; rfl
                    have hM : M = x :: wo L x := by rw [HM.out, act_in HK.out.symm]
                    have hl : 0 < M.length := by rw [hM]; simp
                    obtain ⟨gw, rfl, _, hc4⟩ := HI8.out.cellAt rfl 0 hl
                    have hx0 : M.getD 0 0 = x := by rw [hM]; rfl
                    rw [hx0] at hc4
                    rw [ec]
                    clear ec hM hx0
                    have hl0 : (0 : Int) < (M.length : Int) := by omega
                    have hlb : ((M.length : Int) == 0) = false := by rw [beq_eq_false_iff_ne]; omega
                    have hxx : (x != x) = false := by simp
                    go_wp2_with fail
                    go_quiet ((go_at_call 17; exact Calls.quiet_of (ints_eq (HX8.out.drewN _) (HY8.out.drewN _) EQ.out)))
                    go_wp2_with fail
                    go_roundw
                    case rel => exact dl1_end hlt HX.out HL.out HM.out (R8.out.drewN nq) (below_drewN BW8.out nq)
                    case measure => simp [intOf]; omega
                  | false =>
                    have ec : ((cnt M x : Nat) : Int) = 0 := by rw [HM.out, act_in_no HK.out.symm, cnt_no g.out HK.out.symm]; rfl
                    rw [ec]
                    clear ec
                    have EQ2 := Lib.hid (show eqB L M = true by rw [HM.out, act_in_no HK.out.symm]; simp [eqB])
                    go_wp2_with fail
                    go_quiet (first | (go_at_call 17; with_reducible exact Calls.quiet_of (ints_eq (HX8.out.drewN _) (HY8.out.drewN _) EQ.out)) | (go_at_call 17; with_reducible exact Calls.quiet_of (ints_eq (HW8.out.drewN _) (HI8.out.drewN _) EQ2.out)))
                    go_wp2_with fail
                    go_roundw
                    case rel => exact dl1_end hlt HX.out HL.out HM.out (R8.out.drewN nq) (below_drewN BW8.out nq)
                    case measure => simp [intOf]; omega
      · obtain rfl : k = Z.length := by omega
        have hln : (acts n Z).length ≤ n := by rw [List.take_length] at hle; omega
        clear r3 b3 hle
        go_wp2_with fail
        with_reducible refine (order_rec R3.out).mono ?_
        rintro e w4 ⟨v4, rfl, h4, b4⟩
        have B4 := Lib.hid (B3.out.trans (b4.mono B3.out.size))
        obtain ⟨A4, c4, rfl⟩ := h4.shape
        have hn2 := HN.out
        clear h4 b4
        go_wp2_with fail
        go_ret
        exact ⟨rfl, B4.out⟩
  · go_wp2_with fail
    go_ret
    exact ⟨rfl, B1.out⟩

end Go.Proofs.Ytjcmbddiffebhaa
