/-
  An argument that is a list of kedgelaw10.Act, opened to its cells.
-/
import Derived.Test.YtjcmbddiffebhaaArgs
import Derived.Deep.SlicePairs
import Derived.ProofKit
namespace Go.Proofs.Ytjcmbddiffebhaa
open Go.RowKit Go.ChangeShapes Go.WideShapes Go.ChangeAt

theorem add_none {w : World} {x : Addr} {v : Value} (h : w.cell? (x.add 0) = some v) : ∃ b off, x = ⟨b, off, none⟩ := by
  obtain ⟨b, off, spot⟩ := x
  cases spot with
  | none => exact ⟨b, off, rfl⟩
  | some sp =>
    exfalso
    rw [show (Addr.mk b off (some sp)).add 0 = Addr.mk b off (some sp) from rfl] at h
    unfold World.cell? at h
    split at h <;> simp at h

theorem acts10_of {H : Type} {enc : TypeId × Value → H} {w : World} {base : Nat} {spare : Nat → Bool} {held : Bool} {fuel : Nat} {a : Option Addr} {len cap : Nat} {x : DataW H × List MemPlace}
    (h : DataW.trod enc Try.prog w base spare held fuel 40 [.slice a len cap] = some x) : ∃ Z : List (Bool × Int), Z.length = len ∧ len ≤ 9223372036854775807 ∧ ReadsA w a Z := by
  rcases Deep.open_slice_pairs Try.underlying40 Try.underlying46 (by kernel_rfl) rfl rfl (by kernel_rfl) (by kernel_rfl) h with ⟨hcs, _⟩ | ⟨ad, l, c, m, n, V0, V1, D0, D1, P0, P1, hcs, hb, hl, hm, hmm, hx, hi⟩
  · simp at hcs
    obtain ⟨rfl, rfl, rfl⟩ := hcs
    exact ⟨[], rfl, by omega, fun j hj => by simp at hj⟩
  · simp at hcs
    obtain ⟨rfl, rfl, rfl⟩ := hcs
    have hlm : len ≤ m := by rw [hmm]; split <;> omega
    have each : ∀ i, i < len → ∃ q : Bool × Int, w.cell? (ad.add (i * 2)) = some (.bool q.1) ∧ w.cell? (ad.add (i * 2 + 1)) = some (.int .i64 q.2) := by
      intro i hi'
      obtain ⟨h0, h1, h2, h3⟩ := hi i (by omega)
      obtain ⟨x, e0, _⟩ := DataW.trod_bool Try.underlying4 h2
      obtain ⟨y, e1, _, _⟩ := DataW.trod_int Try.underlying3 h3
      simp at e0 e1
      exact ⟨(x, y), by rw [h0, e0], by rw [h1, e1]⟩
    obtain ⟨q, hq⟩ := Deep.choose_lt each
    refine ⟨(List.range len).map q, by simp, by simp only [maxLen] at hm; omega, fun j hj => ?_⟩
    have hj' : j < len := by simpa using hj
    obtain ⟨b, off, rfl⟩ := add_none (hq 0 (by omega)).1
    obtain ⟨h0, h1⟩ := hq j hj'
    rw [Addr.add_lit] at h0 h1
    have hg : ((List.range len).map q).getD j (false, 0) = q j := by simp [List.getD_eq_getElem?_getD, List.getElem?_map, List.getElem?_range hj']
    rw [hg]
    exact ⟨b, off, rfl, World.block_lt_of_cell? _ _ h0, h0, by rw [← Nat.add_assoc] at h1; exact h1⟩

end Go.Proofs.Ytjcmbddiffebhaa
