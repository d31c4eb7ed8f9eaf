/-
  RecencyTouched's walk: it returns true, and nothing that was there has turned.
-/
import Derived.Test.YtjcmbddiffebhaaTchPlain
import Derived.Test.YtjcmbddiffebhaaRecE
import Derived.Test.YtjcmbddiffebhaaArgs
namespace Go.Proofs.Ytjcmbddiffebhaa
open Go.RowKit

def TL1 (w : World) (lo n : Nat) (Z : List Int) (i : Value) (wr : World) : Prop :=
  ∃ k : Nat, k ≤ Z.length ∧ i = .int .i64 k ∧ Rec wr lo n (touches n (Z.take k)) ∧ Below w.heap.size w wr

def TL2 (w : World) (lo n g : Nat) (Z : List Int) (want i : Value) (wr : World) : Prop :=
  ∃ k : Nat, k ≤ Z.length ∧ i = .int .i64 ((k : Int) - 1) ∧ Rec wr lo n (touches n Z) ∧ Below w.heap.size w wr ∧
    Has wr (g + 1) want (wants n (Z.drop k).reverse) ∧ Marks wr g n (inB (wants n (Z.drop k).reverse))

theorem drop_snoc (Z : List Int) (k : Nat) (h : k < Z.length) : (Z.drop k).reverse = (Z.drop (k + 1)).reverse ++ [Z.getD k 0] := by
  rw [List.drop_eq_getElem_cons h, List.reverse_cons]
  simp [List.getD_eq_getElem?_getD, List.getElem?_eq_getElem h]

theorem tl2_same {w wr : World} {lo n g k : Nat} {Z : List Int} {want : Value} {x : Int} (hk : k < Z.length) (hd : (Z.drop k).reverse = (Z.drop (k + 1)).reverse ++ [x])
    (hm : met n (wants n (Z.drop (k + 1)).reverse) x = wants n (Z.drop (k + 1)).reverse) (r : Rec wr lo n (touches n Z)) (b : Below w.heap.size w wr)
    (h : Has wr (g + 1) want (wants n (Z.drop (k + 1)).reverse)) (m : Marks wr g n (inB (wants n (Z.drop (k + 1)).reverse))) : TL2 w lo n g Z want (.int .i64 ((k : Int) - 1)) wr := by
  refine ⟨k, by omega, rfl, r, b, ?_, ?_⟩ <;> rw [hd, wants_snoc, hm] <;> assumption

theorem tl2_add {w wr w1 : World} {lo n g k y : Nat} {Z : List Int} {want v1 : Value} (hk : k < Z.length) (hd : (Z.drop k).reverse = (Z.drop (k + 1)).reverse ++ [(y : Int)])
    (hm : met n (wants n (Z.drop (k + 1)).reverse) y = wants n (Z.drop (k + 1)).reverse ++ [(y : Int)]) (r : Rec wr lo n (touches n Z)) (b : Below w.heap.size w wr)
    (h : Has wr (g + 1) want (wants n (Z.drop (k + 1)).reverse)) (m : Marks wr g n (inB (wants n (Z.drop (k + 1)).reverse))) (hgl : lo + 3 ≤ g) (hwlo : w.heap.size ≤ lo) (hy : y < n)
    (h1 : Has w1 (g + 1) v1 (wants n (Z.drop (k + 1)).reverse ++ [(y : Int)])) (hg : (wr.setCell ⟨g, y, none⟩ (.bool true)).grownBy w1 want.ownBlock) : TL2 w lo n g Z v1 (.int .i64 ((k : Int) - 1)) w1 := by
  have ho : Only (fun j => g ≤ j) wr w1 := ((Only.refl (fun j => g ≤ j) wr).setCell (p := ⟨g, y, none⟩) (.inl (Nat.le_refl _)) (.bool true)).grown hg (fun j hj => .inl (by have := (h.ge j hj).1; omega))
  have hg' : Only (fun j => want.ownBlock = some j) (wr.setCell ⟨g, y, none⟩ (.bool true)) w1 := (Only.refl (fun j => want.ownBlock = some j) _).grown hg (fun j hj => .inl hj)
  refine ⟨k, by omega, rfl, r.only ho (fun j hj h => by have := hj.2; omega), b.trans (ho.below b.size (fun j hj => by omega)), ?_, ?_⟩
  · rw [hd, wants_snoc, hm]; exact h1
  · rw [hd, wants_snoc, hm, inB_snoc]
    exact (m.set y hy true).only hg' (fun hj => by have := (h.ge g hj).1; omega)

theorem marks_made (w : World) (n : Nat) : Marks (w.alloc (.cells (madeCells #[.bool false] n) 4)) w.heap.size n (fun _ => false) := by
  have h := heap_alloc_new w (.cells (madeCells #[.bool false] n) 4)
  refine ⟨by simp, fun i hi => ?_, fun o => by simp only [World.frozen?, h]; simp⟩
  simp only [World.cell?, h]
  rw [if_neg (by simp)]
  exact madeD n i hi

def TL3 (w : World) (lo n g : Nat) (W : List Int) (want i : Value) (wr : World) : Prop :=
  ∃ k : Nat, k ≤ n ∧ i = .int .i64 k ∧ Rec wr lo n W ∧ Below w.heap.size w wr ∧ Has wr (g + 1) want W ∧ Marks wr g n (inB W)

set_option maxHeartbeats 2000000 in
set_option maxRecDepth 100000 in
theorem touched_walk (most : Int) (A : Option Addr) (c : Nat) (Z : List Int) (w : World) (hZ : Z.length ≤ 9223372036854775807) (hr : Reads w A Z) :
    Calls Try.prog 3 #[.int .i64 most, .slice A Z.length c] w (TrueNew w) := by
  have HR := Lib.hid hr
  clear hr
  obtain ⟨n, hn, hn31⟩ := and_31 most
  go_enter Try.func3, Try.ntmps3
  go_wp2_with fail
  refine (awake10 w).mono ?_
  rintro e w1 ⟨rfl, b1⟩
  have B1 := Lib.hid b1
  clear b1
  by_cases hlen : Z.length ≤ 100
  · go_wp2_with fail
    with_reducible refine (new_rec n w1).mono ?_
    rintro e w2 ⟨rfl, r2, b2, s2⟩
    rw [clamp_of n (by omega)] at r2
    have R2 := Lib.hid r2
    have B2 := Lib.hid (B1.out.trans (b2.mono B1.out.size))
    have HN := Lib.hid hn
    obtain ⟨lo, hlo⟩ : ∃ lo, lo = w1.heap.size := ⟨_, rfl⟩
    have hwlo : w.heap.size ≤ lo := by rw [hlo]; exact B1.out.size
    rw [← hlo] at r2 ⊢
    have R2 := Lib.hid r2
    clear r2 b2 hn hlo s2
    go_wp2_with fail
    go_loopw [8] (fun i wr => TL1 w lo n Z i wr) (fun i _ => Z.length - (intOf i).toNat)
    case atStart => exact ⟨0, Nat.zero_le _, rfl, by simpa [touches] using R2.out, B2.out⟩
    case round =>
      obtain ⟨k, hk, rfl, r3, b3⟩ := hrel
      have R3 := Lib.hid r3
      have B3 := Lib.hid b3
      by_cases hlt : k < Z.length
      · obtain ⟨b, off, rfl, hb, hc⟩ := HR.out k hlt
        have hc3 := (b3.cell (p := ⟨b, off + k, none⟩) hb).trans hc
        obtain ⟨x, hx⟩ : ∃ x, x = Z.getD k 0 := ⟨_, rfl⟩
        rw [← hx] at hc3
        have HX := Lib.hid hx
        clear r3 b3 hc hx
        have g1 : (0 : Int) ≤ (k : Int) := by omega
        have g2 : (k : Int) < (Z.length : Int) := by omega
        go_wp2_with fail
        with_reducible refine (touch_rec R3.out x).mono ?_
        rintro e w4 ⟨rfl, r4, o4⟩
        have hc4 := o4.cell' hc3 (fun h => by have := h.1; have := hwlo; simp at *; omega)
        have L4 : TL1 w lo n Z (.int .i64 ((k : Int) + 1)) w4 := ⟨k + 1, hlt, by go_num, by rw [take_one Z k hlt, touches_snoc, ← HX.out]; exact r4, B3.out.trans (o4.below (by exact B3.out.size) (fun k hk => by have := hk.1; omega) |>.mono (by omega))⟩
        have HL4 := Lib.hid L4
        clear r4 o4 L4 hc3
        by_cases x0 : 0 ≤ x
        · by_cases x1 : x < n
          · have e4 : mayB n x = true := by simp [mayB]; omega
            rw [e4]
            clear e4
            go_wp2_with fail
            go_roundw
            case rel => exact HL4.out
            case measure => simp [intOf]; omega
          · have e4 : mayB n x = false := by simp [mayB]; omega
            rw [e4]
            clear e4
            go_wp2_with fail
            go_roundw
            case rel => exact HL4.out
            case measure => simp [intOf]; omega
        · have e4 : mayB n x = false := by simp [mayB]; omega
          rw [e4]
          clear e4
          go_wp2_with fail
          go_roundw
          case rel => exact HL4.out
          case measure => simp [intOf]; omega
      · obtain rfl : k = Z.length := by omega
        rw [List.take_length] at r3
        have R3 := Lib.hid r3
        clear r3 b3
        have hmk := mk27 n (by omega) wr
        go_wp2_with fail
        obtain ⟨g, hg⟩ : ∃ g, g = wr.heap.size := ⟨_, rfl⟩
        have B5 := Lib.hid (B3.out.alloc B3.out.size (.cells (madeCells #[.bool false] n) 4))
        have R5 := Lib.hid (R3.out.below ((Below.refl _ wr).alloc (Nat.le_refl _) (.cells (madeCells #[.bool false] n) 4)))
        have M5 := Lib.hid (marks_made wr n)
        have hgl : lo + 3 ≤ g := by rw [hg]; exact R3.out.lt
        rw [← hg] at M5 ⊢
        obtain ⟨w5, hw5⟩ : ∃ w5, w5 = wr.alloc (.cells (madeCells #[.bool false] n) 4) := ⟨_, rfl⟩
        rw [← hw5] at B5 R5 M5 ⊢
        clear hmk hw5 hg
        go_wp2_with fail
        go_loopw [11, 12] (fun want i wr => TL2 w lo n g Z want i wr) (fun _ i _ => (intOf i + 1).toNat)
        case atStart =>
          refine ⟨Z.length, Nat.le_refl _, rfl, R5.out, B5.out, ?_, ?_⟩
          · simpa [wants] using Has.nil _ _
          · have : inB (wants n (Z.drop Z.length).reverse) = fun _ => false := by funext x; simp [wants, inB]
            rw [this]; exact M5.out
        case round =>
          obtain ⟨k, hk, rfl, r6, b6, h6, m6⟩ := hrel
          cases k with
          | zero =>
            rw [show ((0 : Nat) : Int) - 1 = -1 from rfl]
            have R6 := Lib.hid r6
            have B6 := Lib.hid b6
            have H6 := Lib.hid h6
            have M6 := Lib.hid m6
            clear r6 b6 h6 m6
            have hw : touches n Z = wants n (Z.drop 0).reverse := by rw [List.drop_zero]; exact touches_wants n Z
            rw [hw] at R6
            obtain ⟨W, hW⟩ : ∃ W, W = wants n (Z.drop 0).reverse := ⟨_, rfl⟩
            rw [← hW] at R6 H6 M6
            clear hw hW
            go_wp2_with fail
            go_loopw [13] (fun i w3 => TL3 w lo n g W u11 i w3) (fun i _ => n - (intOf i).toNat)
            case atStart => exact ⟨0, Nat.zero_le _, rfl, R6.out, B6.out, H6.out, M6.out⟩
            case round =>
              clear R6 B6 H6 M6
              obtain ⟨k, hk, rfl, r6, b6, h6, m6⟩ := hrel
              have R6 := Lib.hid r6
              have B6 := Lib.hid b6
              have H6 := Lib.hid h6
              have M6 := Lib.hid m6
              clear r6 b6 h6 m6
              by_cases hlt : k < n
              · have m6 := M6.out.2.1 k hlt
                cases hin : inB W k with
                | true =>
                  rw [hin] at m6
                  have HI := Lib.hid hin
                  clear hin
                  go_wp2_with fail
                  go_quiet ((go_at_call 16; exact Calls.quiet_of_same (has_eq (R6.out.drewN _) HI.out)))
                  go_wp2_with fail
                  go_roundw
                  case rel => exact ⟨k + 1, hlt, by go_num, R6.out.drewN nq, below_drewN B6.out nq, H6.out.drewN nq, M6.out.drewN nq⟩
                  case measure => simp [intOf]; omega
                | false =>
                  rw [hin] at m6
                  have HI := Lib.hid hin
                  clear hin
                  go_wp2_with fail
                  go_quiet ((go_at_call 16; exact Calls.quiet_of_same (has_eq (R6.out.drewN _) HI.out)))
                  go_wp2_with fail
                  go_roundw
                  case rel => exact ⟨k + 1, hlt, by go_num, R6.out.drewN nq, below_drewN B6.out nq, H6.out.drewN nq, M6.out.drewN nq⟩
                  case measure => simp [intOf]; omega
              · go_wp2_with fail
                with_reducible refine (order_rec R6.out).mono ?_
                rintro e w7 ⟨v, rfl, h7, b7⟩
                have B7 := Lib.hid (B6.out.trans (b7.mono B6.out.size))
                have H7 := Lib.hid h7
                have H8 := Lib.hid (H6.out.below b7)
                clear h7 b7
                go_wp2_with fail
                with_reducible refine (ints_any H7.out H8.out).mono ?_
                rintro e w8 ⟨rfl, q2, rfl⟩
                have e8 : eqB W W = true := by simp [eqB]
                rw [e8]
                clear e8
                go_wp2_with fail
                go_ret
                exact ⟨rfl, below_drewN B7.out q2⟩
          | succ k =>
            rw [show ((k + 1 : Nat) : Int) - 1 = k by omega]
            have hlt2 : k < Z.length := by omega
            obtain ⟨b, off, rfl, hb, hc⟩ := HR.out k hlt2
            have hc6 := (b6.cell (p := ⟨b, off + k, none⟩) hb).trans hc
            obtain ⟨x, hx⟩ : ∃ x, x = Z.getD k 0 := ⟨_, rfl⟩
            rw [← hx] at hc6
            have hd := drop_snoc Z k hlt2
            rw [← hx] at hd
            have HX := Lib.hid hx
            have HD := Lib.hid hd
            have R6 := Lib.hid r6
            have B6 := Lib.hid b6
            have H6 := Lib.hid h6
            have M6 := Lib.hid m6
            have hgs := m6.1
            clear r6 b6 h6 m6 hc hx hd
            have g1 : (0 : Int) ≤ (k : Int) := by omega
            have g2 : (k : Int) < (Z.length : Int) := by omega
            by_cases x0 : 0 ≤ x
            · obtain ⟨y, hy⟩ := Int.eq_ofNat_of_zero_le x0
              subst hy
              by_cases x1 : (y : Int) < n
              · have hm6 := M6.out.2.1 y (by omega)
                cases hin : inB (wants n (Z.drop (k + 1)).reverse) y with
                | true =>
                  have HI := Lib.hid hin
                  rw [hin] at hm6
                  clear hin
                  go_wp2_with fail
                  go_roundw
                  case rel => exact tl2_same hlt2 HD.out (met_in HI.out) R6.out B6.out H6.out M6.out
                  case measure => simp [intOf]
                | false =>
                  have HI := Lib.hid hin
                  rw [hin] at hm6
                  clear hin
                  have fm6 := M6.out.2.2 y
                  obtain ⟨A6, c6, rfl⟩ := H6.out.shape
                  have H7 := Lib.hid (H6.out.only ((Only.refl (fun j => j = g) wr).setCell (p := ⟨g, y, none⟩) (.inl rfl) (.bool true)) (fun j hj h => by have := (H6.out.ge j hj).1; omega))
                  have HS7 := Lib.hid (show g + 1 ≤ (wr.setCell ⟨g, y, none⟩ (.bool true)).heap.size by simp; omega)
                  have HZ7 := Lib.hid (show (wr.setCell ⟨g, y, none⟩ (.bool true)).heap.size = wr.heap.size by simp)
                  have HW7 := Lib.hid (show (wants n (Z.drop (k + 1)).reverse).length ≤ 1000000 by have := wants_len n (Z.drop (k + 1)).reverse; simp at this; omega)
                  go_wp2_with (at_builtin; refine app_int HZ7.out (g + 1) rfl (.tmp 88) (.tmp 93) 22 rfl Try.underlying22 Try.info3 (.slice A6 _ c6) (wants n (Z.drop (k + 1)).reverse) _ rfl rfl H7.out HS7.out HW7.out ?_; intro v1 w1 hown hg hat; have HN := Lib.hid hown; have HG := Lib.hid hg; clear hown hg hat)
                  go_roundw
                  case rel => exact tl2_add hlt2 HD.out (met_new (by omega) x1 HI.out) R6.out B6.out H6.out M6.out hgl hwlo (by omega) HN.out HG.out
                  case measure => simp [intOf]
              · go_wp2_with fail
                go_roundw
                case rel => exact tl2_same hlt2 HD.out (met_no (.inr (by omega))) R6.out B6.out H6.out M6.out
                case measure => simp [intOf]
            · go_wp2_with fail
              go_roundw
              case rel => exact tl2_same hlt2 HD.out (met_no (.inl (by omega))) R6.out B6.out H6.out M6.out
              case measure => simp [intOf]
  · go_wp2_with fail
    go_ret
    exact ⟨rfl, B1.out⟩

end Go.Proofs.Ytjcmbddiffebhaa
