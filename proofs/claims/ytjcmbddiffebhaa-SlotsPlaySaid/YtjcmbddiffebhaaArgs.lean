/-
  Small words for the statements' own walks: what an argument's list reads as; a masked number; a row of marks.
-/
import Derived.Test.YtjcmbddiffebhaaOnly
import Derived.Laws.BitsLemmas
import Derived.Lib.Hide
namespace Go.Proofs.Ytjcmbddiffebhaa
open Go.RowKit

/-- a masked number -/
theorem and_le (x : Int) (b : Nat) (hb : b < 1000000) : 0 ≤ bits .and .i64 x b ∧ bits .and .i64 x b ≤ b := by
  have h : ((BitVec.ofInt 64 x &&& BitVec.ofInt 64 (b : Int)).toNat) ≤ b := by
    rw [BitVec.toNat_and, BitVec.ofInt_natCast, BitVec.toNat_ofNat, Nat.mod_eq_of_lt (show b < 2 ^ 64 by omega)]
    exact Nat.and_le_right
  have e : bits .and .i64 x b = (((BitVec.ofInt 64 x &&& BitVec.ofInt 64 (b : Int)).toNat : Nat) : Int) := by
    show IntKind.i64.wrap _ = _
    rw [IntKind.wrap_i64]
    have h' : ((BitVec.ofInt IntKind.i64.bits x &&& BitVec.ofInt IntKind.i64.bits (b : Int)).toNat) ≤ b := h
    show (((BitVec.ofInt IntKind.i64.bits x &&& BitVec.ofInt IntKind.i64.bits (b : Int)).toNat : Int) + _) % _ - _ = (((BitVec.ofInt IntKind.i64.bits x &&& BitVec.ofInt IntKind.i64.bits (b : Int)).toNat : Nat) : Int)
    omega
  rw [e]
  omega

theorem and_31 (x : Int) : ∃ n : Nat, bits .and .i64 x 31 = n ∧ n ≤ 31 := by
  obtain ⟨n0, n1⟩ := and_le x 31 (by decide)
  obtain ⟨n, hn⟩ := Int.eq_ofNat_of_zero_le n0
  exact ⟨n, hn, by rw [hn] at n1; omega⟩

/-- an argument's list of numbers -/
def Reads (w : World) (A : Option Addr) (Z : List Int) : Prop :=
  ∀ j, j < Z.length → ∃ b off, A = some ⟨b, off, none⟩ ∧ b < w.heap.size ∧ w.cell? ⟨b, off + j, none⟩ = some (.int .i64 (Z.getD j 0))

theorem Reads.below {w w' : World} {A : Option Addr} {Z : List Int} (h : Reads w A Z) {B : Nat} (hb : Below B w w') (hB : w.heap.size ≤ B) : Reads w' A Z := by
  intro j hj
  obtain ⟨b, off, ha, hl, hc⟩ := h j hj
  exact ⟨b, off, ha, Nat.lt_of_lt_of_le hl hb.size, (hb.cell (p := ⟨b, off + j, none⟩) (Nat.lt_of_lt_of_le hl hB)).trans hc⟩

/-- an argument's list of deeds: two cells each -/
def ReadsA (w : World) (A : Option Addr) (Z : List (Bool × Int)) : Prop :=
  ∀ j, j < Z.length → ∃ b off, A = some ⟨b, off, none⟩ ∧ b < w.heap.size ∧ w.cell? ⟨b, off + j * 2, none⟩ = some (.bool (Z.getD j (false, 0)).1) ∧
    w.cell? ⟨b, off + j * 2 + 1, none⟩ = some (.int .i64 (Z.getD j (false, 0)).2)

theorem take_one' {α : Type} (d : α) (L : List α) (k : Nat) (h : k < L.length) : L.take (k + 1) = L.take k ++ [L.getD k d] := by
  rw [List.take_succ_eq_append_getElem h]; simp [List.getD_eq_getElem?_getD, List.getElem?_eq_getElem h]

/-- a row of n marks at block g -/
def Marks (w : World) (g n : Nat) (f : Int → Bool) : Prop :=
  g < w.heap.size ∧ (∀ i : Nat, i < n → w.cell? ⟨g, i, none⟩ = some (.bool (f i))) ∧ ∀ o, w.frozen? ⟨g, o, none⟩ = false

theorem Marks.only {w w' : World} {g n : Nat} {f : Int → Bool} {S : Nat → Prop} (h : Marks w g n f) (ho : Only S w w') (hs : ¬ S g) : Marks w' g n f :=
  ⟨Nat.lt_of_lt_of_le h.1 ho.size, fun i hi => ho.cell' (h.2.1 i hi) hs, fun o => (ho.frozen (p := ⟨g, o, none⟩) h.1 hs).trans (h.2.2 o)⟩

theorem Marks.drewN {w : World} {g n : Nat} {f : Int → Bool} (h : Marks w g n f) (q : Nat) : Marks (w.drewN q) g n f := h

theorem Marks.set {w : World} {g n : Nat} {f : Int → Bool} (h : Marks w g n f) (k : Nat) (hk : k < n) (v : Bool) : Marks (w.setCell ⟨g, k, none⟩ (.bool v)) g n (fun x => if x = k then v else f x) := by
  refine ⟨by simpa using h.1, fun i hi => ?_, fun o => by rw [World.frozen?_setCell]; exact h.2.2 o⟩
  by_cases e : i = k
  · subst e; rw [World.cell?_setCell_same _ _ _ (h.2.1 i hi)]; simp
  · rw [World.cell?_setCell_other _ _ _ _ (by intro h'; injection h' with _ h2; omega), h.2.1 i hi]
    have : ¬ ((i : Int) = k) := by omega
    simp [this]

end Go.Proofs.Ytjcmbddiffebhaa
