/-
  RecencyDrains' walk: it returns true, and nothing that was there has turned.
-/
import Derived.Test.YtjcmbddiffebhaaRecE
import Derived.Test.YtjcmbddiffebhaaArgs
namespace Go.Proofs.Ytjcmbddiffebhaa
open Go.RowKit

/-- deeds, one behind the other -/
def acts (n : Nat) (Z : List (Bool × Int)) : List Int := Z.foldl (fun L a => act n L a.1 a.2) []
theorem acts_snoc (n : Nat) (Z : List (Bool × Int)) (a : Bool × Int) : acts n (Z ++ [a]) = act n (acts n Z) a.1 a.2 := by simp [acts]

def DL1 (w : World) (lo n : Nat) (Z : List (Bool × Int)) (i : Value) (wr : World) : Prop :=
  ∃ k : Nat, k ≤ Z.length ∧ i = .int .i64 k ∧ Rec wr lo n (acts n (Z.take k)) ∧ Below w.heap.size w wr

theorem dl1_step {w wr w1 : World} {lo n k : Nat} {Z : List (Bool × Int)} (hk : k < Z.length) (hl : w.heap.size ≤ lo) (b : Below w.heap.size w wr)
    (r : Rec w1 lo n (act n (acts n (Z.take k)) (Z.getD k (false, 0)).1 (Z.getD k (false, 0)).2)) (o : Only (In3 lo) wr w1) : DL1 w lo n Z (.int .i64 ((k : Int) + 1)) w1 :=
  ⟨k + 1, hk, by go_num, by rw [take_one' (false, 0) Z k hk, acts_snoc]; exact r, in3_below o b hl⟩

def DL2 (w : World) (lo n B : Nat) (L : List Int) (order : Value) (i : Value) (wr : World) : Prop :=
  ∃ k : Nat, k ≤ L.length ∧ i = .int .i64 ((k : Int) - 1) ∧ Rec wr lo n (L.take k) ∧ Below w.heap.size w wr ∧ lo + 3 ≤ B ∧ Has wr B order L

theorem last_take (L : List Int) (k : Nat) (h : k < L.length) : lastI (L.take (k + 1)) = L.getD k 0 ∧ someB (L.take (k + 1)) = true := by
  rw [take_one L k h]
  simp [lastI, someB, List.getLastD_eq_getLast?]

theorem wo_take {L : List Int} (g : L.Nodup) (k : Nat) (h : k < L.length) : wo (L.take (k + 1)) (L.getD k 0) = L.take k ∧ inB (L.take (k + 1)) (L.getD k 0) = true := by
  have g' : (L.take (k + 1)).Nodup := List.Sublist.nodup (List.take_sublist _ _) g
  rw [take_one L k h] at g' ⊢
  refine ⟨?_, by simp [inB]⟩
  have := wo_split (L1 := L.take k) (L2 := []) (x := L.getD k 0) g'
  simpa using this

set_option maxHeartbeats 2000000 in
set_option maxRecDepth 100000 in
theorem drains_walk (most : Int) (A : Option Addr) (c : Nat) (Z : List (Bool × Int)) (w : World) (hZ : Z.length ≤ 9223372036854775807) (hr : ReadsA w A Z) :
    Calls Try.prog 8 #[.int .i64 most, .slice A Z.length c] w (TrueNew w) := by
  have HR := Lib.hid hr
  clear hr
  obtain ⟨n, hn, hn31⟩ := and_31 most
  go_enter Try.func8, Try.ntmps8
  go_wp2_with fail
  with_reducible refine (awake10 w).mono ?_
  rintro e w1 ⟨rfl, b1⟩
  have B1 := Lib.hid b1
  clear b1
  by_cases hlen : Z.length ≤ 100
  · go_wp2_with fail
    with_reducible refine (new_rec n w1).mono ?_
    rintro e w2 ⟨rfl, r2, b2, s2⟩
    rw [clamp_of n (by omega)] at r2
    have B2 := Lib.hid (B1.out.trans (b2.mono B1.out.size))
    have HN := Lib.hid hn
    obtain ⟨lo, hlo⟩ : ∃ lo, lo = w1.heap.size := ⟨_, rfl⟩
    have hwlo : w.heap.size ≤ lo := by rw [hlo]; exact B1.out.size
    rw [← hlo] at r2 ⊢
    have R2 := Lib.hid r2
    clear r2 b2 hn hlo s2
    go_wp2_with fail
    go_loopw [7] (fun i wr => DL1 w lo n Z i wr) (fun i _ => Z.length - (intOf i).toNat)
    case atStart => exact ⟨0, Nat.zero_le _, rfl, by simpa [acts] using R2.out, B2.out⟩
    case round =>
      obtain ⟨k, hk, rfl, r3, b3⟩ := hrel
      have R3 := Lib.hid r3
      have B3 := Lib.hid b3
      by_cases hlt : k < Z.length
      · obtain ⟨b, off, rfl, hb, hc0, hc1⟩ := HR.out k hlt
        have hd0 := (b3.cell (p := ⟨b, off + k * 2, none⟩) hb).trans hc0
        have hd1 := (b3.cell (p := ⟨b, off + k * 2 + 1, none⟩) hb).trans hc1
        obtain ⟨⟨ob, x⟩, hx⟩ : ∃ a, a = Z.getD k (false, 0) := ⟨_, rfl⟩
        rw [← hx] at hd0 hd1
        have HX := Lib.hid hx
        clear r3 b3 hc0 hc1 hx
        have g1 : (0 : Int) ≤ (k : Int) := by omega
        have g2 : (k : Int) < (Z.length : Int) := by omega
        go_wp2_with fail
        with_reducible refine (do_rec R3.out ob x).mono ?_
        rintro e w4 ⟨rfl, r4, o4⟩
        have L4 := Lib.hid (dl1_step hlt hwlo B3.out (by rw [← HX.out]; exact r4) o4)
        clear r4 o4 hd0 hd1
        go_wp2_with fail
        go_roundw
        case rel => exact L4.out
        case measure => simp [intOf]; omega
      · obtain rfl : k = Z.length := by omega
        rw [List.take_length] at r3
        have R3 := Lib.hid r3
        have hle := r3.le
        have g := Lib.hid hle.2.2.1
        have hL : (acts n Z).length ≤ 1024 := by omega
        obtain ⟨L, hL'⟩ : ∃ L, L = acts n Z := ⟨_, rfl⟩
        rw [← hL'] at g R3 hL
        clear r3 b3 hle hL'
        go_wp2_with fail
        with_reducible refine (order_rec R3.out).mono ?_
        rintro e w7 ⟨v, rfl, h7, b7⟩
        obtain ⟨A7, c7, rfl⟩ := h7.shape
        obtain ⟨BB, hBB⟩ : ∃ BB, BB = wr.heap.size := ⟨_, rfl⟩
        have HD := Lib.hid (show DL2 w lo n BB L (.slice A7 L.length c7) (.int .i64 ((L.length : Int) - 1)) w7 from
          ⟨L.length, Nat.le_refl _, rfl, by rw [List.take_length]; exact R3.out.below b7, B3.out.trans (b7.mono B3.out.size), by rw [hBB]; exact R3.out.lt, by rw [hBB]; exact h7⟩)
        clear hBB
        clear h7 b7
        go_wp2_with fail
        go_loopw [9] (fun i w3 => DL2 w lo n BB L (.slice A7 L.length c7) i w3) (fun i _ => (intOf i + 1).toNat)
        case atStart => exact HD.out
        case round =>
          obtain ⟨k, hk, rfl, r8, b8, hB, h8⟩ := hrel
          have R8 := Lib.hid r8
          have B8 := Lib.hid b8
          have H8 := Lib.hid h8
          cases k with
          | zero =>
            rw [show ((0 : Nat) : Int) - 1 = -1 from rfl]
            clear r8 b8 h8
            go_wp2_with fail
            with_reducible refine (last_rec R8.out).mono ?_
            rintro e w9 ⟨rfl, q, rfl⟩
            have e1 : someB (L.take 0) = false := rfl
            rw [e1]
            clear e1
            go_wp2_with fail
            with_reducible refine (len_rec (R8.out.drewN q)).mono ?_
            rintro e w10 ⟨rfl, rfl⟩
            rw [show (L.take 0).length = 0 from rfl]
            go_wp2_with fail
            go_ret
            exact ⟨rfl, below_drewN B8.out q⟩
          | succ k =>
            rw [show ((k + 1 : Nat) : Int) - 1 = k by omega]
            have hlt2 : k < L.length := by omega
            obtain ⟨e1, e2⟩ := last_take L k hlt2
            obtain ⟨e3, e4⟩ := wo_take g.out k hlt2
            obtain ⟨x, hx⟩ : ∃ x, x = L.getD k 0 := ⟨_, rfl⟩
            rw [← hx] at e1 e3 e4
            obtain ⟨g8, rfl, hown8, hc8⟩ := h8.cellAt rfl k hlt2
            rw [← hx] at hc8
            have hg8 := (h8.ge g8 hown8).1
            clear r8 b8 h8 hx
            have g1 : (0 : Int) ≤ (k : Int) := by omega
            have g2 : (k : Int) < (L.length : Int) := by omega
            have E1 := Lib.hid e1
            have E2 := Lib.hid e2
            have E3 := Lib.hid e3
            have E4 := Lib.hid e4
            clear e1 e2 e3 e4 hown8
            go_wp2_with fail
            with_reducible refine (last_rec R8.out).mono ?_
            rintro e w9 ⟨rfl, q, rfl⟩
            rw [E1.out, E2.out]
            go_wp2_with fail
            with_reducible refine (drop_rec (R8.out.drewN q) x).mono ?_
            rintro e w10 ⟨rfl, r10, o10⟩
            rw [E4.out]
            rw [E3.out] at r10
            have HD2 := Lib.hid (show DL2 w lo n BB L (.slice (some ⟨g8, 0, none⟩) L.length c7) (.int .i64 ((k : Int) - 1)) w10 from
              ⟨k, by omega, rfl, r10, in3_below o10 (below_drewN B8.out q) hwlo, hB, (H8.out.drewN q).only o10 (fun j hj h => by have := ((H8.out.drewN q).ge j hj).1; have := h.2; omega)⟩)
            clear r10 o10
            go_wp2_with fail
            go_roundw
            case rel => exact HD2.out
            case measure => simp [intOf]
  · go_wp2_with fail
    go_ret
    exact ⟨rfl, B1.out⟩

end Go.Proofs.Ytjcmbddiffebhaa
