/-
  kedgeref09.Ints: are two lists of numbers the same?
-/
import Derived.Test.YtjcmbddiffebhaaOnly
import Derived.WalkLawsBesides
import Derived.RegionTactic
import Derived.Deep.QuietTactic
import Derived.BigQuiet
import Derived.Lib.Hide
namespace Go.Proofs.Ytjcmbddiffebhaa
open Go.RowKit

def eqB (L M : List Int) : Bool := decide (L = M)

def IntsRel (w : World) (L M : List Int) (i : Value) (wr : World) : Prop :=
  ∃ k q : Nat, k ≤ L.length ∧ i = .int .i64 k ∧ L.take k = M.take k ∧ wr = w.drewN q

theorem take_one (L : List Int) (k : Nat) (h : k < L.length) : L.take (k + 1) = L.take k ++ [L.getD k 0] := by
  rw [List.take_succ_eq_append_getElem h]; simp [List.getD_eq_getElem?_getD, List.getElem?_eq_getElem h]

def BoolQ (w : World) (b : Bool) (e : Ending) (w' : World) : Prop := e = .returned (.bool b) ∧ ∃ q, w' = w.drewN q

set_option maxHeartbeats 1000000 in
theorem ints_any {w : World} {b1 b2 : Nat} {v1 v2 : Value} {L M : List Int} (h1 : Has w b1 v1 L) (h2 : Has w b2 v2 M) :
    Calls Try.prog 17 #[v1, v2] w (BoolQ w (eqB L M)) := by
  obtain ⟨A, c, rfl⟩ := h1.shape
  obtain ⟨B, d, rfl⟩ := h2.shape
  have hL := h1.le
  have hM := h2.le
  have H1 := Lib.hid h1
  have H2 := Lib.hid h2
  clear h1 h2
  by_cases hlen : L.length = M.length
  · have hb : ((L.length : Int) == (M.length : Int)) = true := by simp [hlen]
    have HL := Lib.hid hlen
    clear hlen
    go_enter Try.func17, Try.ntmps17
    go_wp2_with fail
    go_loopw [5] (fun i wr => IntsRel w L M i wr) (fun i _ => L.length - (intOf i).toNat)
    case atStart => exact ⟨0, 0, Nat.zero_le _, rfl, by simp, rfl⟩
    case round =>
      obtain ⟨k, q, hk, rfl, he, rfl⟩ := hrel
      have HE := Lib.hid he
      clear he
      by_cases hlt : k < L.length
      · have hlt2 : k < M.length := by have := HL.out; omega
        obtain ⟨g1, rfl, _, e1⟩ := H1.out.cellAt rfl k hlt
        obtain ⟨g2, rfl, _, e2⟩ := H2.out.cellAt rfl k hlt2
        obtain ⟨x, hx⟩ : ∃ x, x = L.getD k 0 := ⟨_, rfl⟩
        obtain ⟨y, hy⟩ : ∃ y, y = M.getD k 0 := ⟨_, rfl⟩
        rw [← hx] at e1
        rw [← hy] at e2
        have HX := Lib.hid hx
        have HY := Lib.hid hy
        clear hx hy
        have i0 : (0 : Int) ≤ (k : Int) := by omega
        have i1 : (k : Int) < (L.length : Int) := by omega
        have i2 : (k : Int) < (M.length : Int) := by omega
        by_cases hxy : x = y
        · have hb2 : (x != y) = false := by simp [hxy]
          have HXY := Lib.hid hxy
          clear hxy
          go_wp2_with fail
          go_quiet (fail)
          go_wp2
          go_roundw
          case rel => exact ⟨k + 1, _, by omega, by go_num, by rw [take_one L k hlt, take_one M k hlt2, HE.out, ← HX.out, ← HY.out, HXY.out], rfl⟩
          case measure => simp [intOf]; omega
        · have hb2 : (x != y) = true := by simp [hxy]
          go_wp2_with fail
          go_quiet (fail)
          go_wp2
          go_ret
          refine ⟨?_, _, World.drewN_drewN ..⟩
          have : eqB L M = false := by
            simp only [eqB, decide_eq_false_iff_not]
            rintro rfl
            exact hxy (HX.out.trans HY.out.symm)
          rw [this]; rfl
      · go_wp2_with fail
        go_ret
        refine ⟨?_, _, rfl⟩
        obtain rfl : k = L.length := by omega
        have h := HE.out
        rw [List.take_length, HL.out, List.take_length] at h
        have : eqB L M = true := by simp [eqB, h]
        rw [this]; rfl
  · have hb : ((L.length : Int) == (M.length : Int)) = false := by simp; omega
    have hn : eqB L M = false := by
      simp only [eqB, decide_eq_false_iff_not]
      rintro rfl
      exact hlen rfl
    rw [hn]
    go_enter Try.func17, Try.ntmps17
    go_wp2_with fail
    go_ret
    exact ⟨rfl, 0, rfl⟩

theorem ints_eq {w : World} {b1 b2 : Nat} {v1 v2 : Value} {L M : List Int} {b : Bool} (h1 : Has w b1 v1 L) (h2 : Has w b2 v2 M) (hb : eqB L M = b) :
    Calls Try.prog 17 #[v1, v2] w fun e w' => e = .returned (.bool b) ∧ ∃ q, w' = w.drewN q := by
  subst hb
  exact ints_any h1 h2

end Go.Proofs.Ytjcmbddiffebhaa
