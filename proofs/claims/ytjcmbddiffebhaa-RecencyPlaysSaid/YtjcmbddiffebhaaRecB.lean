/-
  recency.List's Order and New said of cells.
-/
import Derived.Test.YtjcmbddiffebhaaRecA
import Derived.Deep.LoopGhost
namespace Go.Proofs.Ytjcmbddiffebhaa
open Go.RowKit

/-- the ring: m, the list, m again -/
def nth (m : Nat) (L : List Int) (j : Nat) : Int := ((m : Int) :: L).getD j m
theorem nth_zero (m : Nat) (L : List Int) : nth m L 0 = m := rfl
theorem nth_succ (m : Nat) (L : List Int) (j : Nat) (h : j < L.length) : nth m L (j + 1) = L.getD j 0 := by
  simp [nth, List.getD_eq_getElem?_getD, List.getElem?_eq_getElem h]
theorem take_snoc (L : List Int) (k : Nat) (h : k < L.length) : L.take (k + 1) = L.take k ++ [L.getD k 0] := by
  rw [List.take_succ_eq_append_getElem h]; simp [List.getD_eq_getElem?_getD, List.getElem?_eq_getElem h]

/-- a fresh list of numbers is handed back, nothing that was there has turned -/
def Fresh (w : World) (L : List Int) (e : Ending) (w' : World) : Prop := ∃ v, e = .returned v ∧ Has w' w.heap.size v L ∧ Below w.heap.size w w'

def OrdRel (w : World) (m : Nat) (L : List Int) (out at_ : Value) (wr : World) : Prop :=
  ∃ k, k ≤ L.length ∧ Has wr w.heap.size out (L.take k) ∧ ((k = 0 ∧ at_ = .int .i64 0) ∨ (0 < k ∧ at_ = .int .i64 (nth m L k))) ∧ Below w.heap.size w wr

theorem OrdRel.step {w wr w1 : World} {m k : Nat} {L : List Int} {x : Int} {v v1 : Value} (hlt : k < L.length) (hx : x = L.getD k 0) (ho : Has wr w.heap.size v (L.take k)) (hb : Below w.heap.size w wr)
    (hn : Has w1 w.heap.size v1 (L.take k ++ [x])) (hg : wr.grownBy w1 v.ownBlock) (e1 : nth m L (k + 1) = x) : OrdRel w m L v1 (.int .i64 x) w1 :=
  ⟨k + 1, hlt, by rw [take_snoc L k hlt, ← hx]; exact hn, .inr ⟨by omega, by rw [e1]⟩, hb.grown hg hb.size (fun g hg' => (ho.ge g hg').1)⟩

section
variable {w w' : World} {p bl bi m : Nat} {n : Int} {ah bh : Int → Int} {is : Int → Bool}

theorem Low.below (h : Low w p bl bi m n ah bh is) (hb : Below w.heap.size w w') : Low w' p bl bi m n ah bh is :=
  h.only (S := fun _ => False) (Only.ofBelow hb) (fun h => h) (fun h => h) (fun h => h)

theorem order_nil (w : World) : Calls Try.prog 18 #[.pointer none] w fun e w' => e = .returned (.slice none 0 0) ∧ w = w' := by
  go_enter Try.func18, Try.ntmps18
  go_wp2
  refine wp_loop_rounds 1 ?_
  rw [rounds_succ]
  go_wp2_with (go_at_call 31; refine (len_nil w).mono ?_; rintro e w' ⟨rfl, rfl⟩)
  go_ret
  exact ⟨rfl, rfl⟩

set_option maxHeartbeats 1000000 in
theorem order_low {L : List Int} (h : Low w p bl bi m L.length ah bh is) (hch : ∀ j, j < L.length → bh (nth m L j) = nth m L (j + 1)) (hr : ∀ x ∈ L, 0 ≤ x ∧ x < m) (hL : L.length ≤ 1024) :
    Calls Try.prog 18 #[.pointer (some ⟨p, 0, none⟩)] w (Fresh w L) := by
  have H := Lib.hid h
  have HCH := Lib.hid hch
  have HR := Lib.hid hr
  clear h hch hr
  go_enter Try.func18, Try.ntmps18
  go_wp2_with fail
  go_loopw [3, 4] (fun out at_ wr => OrdRel w m L out at_ wr) (fun out _ _ => L.length - (match out with | .slice _ n _ => n | _ => 0))
  case atStart => exact ⟨0, Nat.zero_le _, by simpa using Has.nil _ _, .inl ⟨rfl, rfl⟩, Below.refl _ _⟩
  case round =>
    obtain ⟨k, hk, hown, hat, hbel⟩ := hrel
    have hlow := H.out.below hbel
    obtain ⟨A, c, rfl⟩ := hown.shape
    have hlen : (L.take k).length = k := by simp; omega
    rw [hlen] at hown ⊢
    have hbel0 := hbel
    have HB := Lib.hid hbel
    have HO := Lib.hid hown
    have HA := Lib.hid hat
    clear hown hbel hat hlen
    have g0 := hlow.c0
    have g1 := hlow.c1
    have g2 := hlow.c2
    have g3 := hlow.l1
    have hm := hlow.hm
    have HS := Lib.hid hbel0.size
    clear hbel0
    by_cases hlt : k < L.length
    · have ho := H.out
      have hc := HCH.out k hlt
      have e1 := nth_succ m L k hlt
      have hrk := HR.out (L.getD k 0) (by simp [List.getD_eq_getElem?_getD, List.getElem?_eq_getElem hlt])
      rw [e1] at hc
      obtain ⟨x, hx⟩ : ∃ x, x = L.getD k 0 := ⟨_, rfl⟩
      rw [← hx] at hc hrk e1
      have HX := Lib.hid hx
      have b0 : ((k : Int) < (L.length : Int)) := by omega
      by_cases h0 : k = 0
      · subst h0
        have gm := g3 m (Nat.le_refl m)
        rw [nth_zero] at hc
        rw [hc] at gm
        have HC := Lib.hid hc
        have HE := Lib.hid e1
        clear hc hx e1 g3 ho hlow
        have b1 : (0 : Int) ≤ (m : Int) := by omega
        have b2 : (m : Int) < (m : Int) + 1 := by omega
        go_wp2_with (first | (go_at_call 31; refine (len_any p _ _ g2).mono ?_; rintro e w' ⟨rfl, rfl⟩) | (go_at_call 44; refine (end_any p _ _ _ g1).mono ?_; rintro e w' ⟨rfl, rfl⟩) | (at_builtin; refine app_int rfl w.heap.size rfl (.tmp 23) (.tmp 25) 22 rfl Try.underlying22 Try.info3 (.slice A 0 c) (L.take 0) _ rfl rfl HO.out HS.out (Nat.le_trans (List.length_take_le' _ _) (by omega)) ?_; intro v1 w1 hown hg hat1; have HN := Lib.hid hown; have HG := Lib.hid hg; clear hown hg hat1))
        have R := OrdRel.step hlt HX.out HO.out HB.out HN.out HG.out HE.out
        obtain ⟨A1, c1, rfl⟩ := HN.out.shape
        go_roundw
        case rel => exact R
        case measure => have : ((List.take 0 L ++ [x]).length) = 0 + 1 := by simp
                        rw [this]; simp <;> omega
      · have hk0 : 0 < k := by omega
        obtain ⟨y, hy⟩ : ∃ y : Nat, nth m L k = y ∧ y < m := by
          have e2 := nth_succ m L (k - 1) (by omega)
          rw [Nat.sub_add_cancel hk0] at e2
          have h2 := HR.out (L.getD (k - 1) 0) (by simp [List.getD_eq_getElem?_getD, List.getElem?_eq_getElem (show k - 1 < L.length by omega)])
          exact ⟨(L.getD (k - 1) 0).toNat, by omega, by omega⟩
        obtain ⟨hy, hym⟩ := hy
        have hA := HA.out
        rw [hy] at hA hc
        obtain rfl : u4 = .int .i64 y := by rcases hA with ⟨hA, _⟩ | ⟨_, hA⟩ <;> first | omega | exact hA
        have gm := g3 y (by omega)
        rw [hc] at gm
        have HC := Lib.hid hc
        have HE := Lib.hid e1
        clear hc hx e1 g3 ho hlow hA HA hy
        have b1 : (0 : Int) ≤ (y : Int) := by omega
        have b2 : (y : Int) < (m : Int) + 1 := by omega
        have b3 : ((k : Int) == 0) = false := by simp; omega
        go_wp2_with (first | (go_at_call 31; refine (len_any p _ _ g2).mono ?_; rintro e w' ⟨rfl, rfl⟩) | (go_at_call 44; refine (end_any p _ _ _ g1).mono ?_; rintro e w' ⟨rfl, rfl⟩) | (at_builtin; refine app_int rfl w.heap.size rfl (.tmp 23) (.tmp 25) 22 rfl Try.underlying22 Try.info3 (.slice A k c) (L.take k) _ rfl rfl HO.out HS.out (Nat.le_trans (List.length_take_le' _ _) (by omega)) ?_; intro v1 w1 hown hg hat1; have HN := Lib.hid hown; have HG := Lib.hid hg; clear hown hg hat1))
        have R := OrdRel.step hlt HX.out HO.out HB.out HN.out HG.out HE.out
        obtain ⟨A1, c1, rfl⟩ := HN.out.shape
        go_roundw
        case rel => exact R
        case measure => have : ((List.take k L ++ [x]).length) = k + 1 := by simp; omega
                        rw [this]; simp <;> omega
    · obtain rfl : k = L.length := by omega
      have g4 := g2
      clear g3 hlow
      go_wp2_with (go_at_call 31; refine (len_any p _ _ g4).mono ?_; rintro e w' ⟨rfl, rfl⟩)
      go_ret
      exact ⟨_, rfl, by simpa using HO.out, HB.out⟩
end
end Go.Proofs.Ytjcmbddiffebhaa
