/-
  An argument that is a list of kedgelaw09.Act, opened to its cells.
-/
import Derived.Test.YtjcmbddiffebhaaSloF
import Derived.Deep.SlicePairs
namespace Go.Proofs.Ytjcmbddiffebhaa
open Go.RowKit Go.ChangeShapes Go.WideShapes Go.ChangeAt

theorem add_none9 {w : World} {x : Addr} {v : Value} (h : w.cell? (x.add 0) = some v) : ∃ b off, x = ⟨b, off, none⟩ := by
  obtain ⟨b, off, spot⟩ := x
  cases spot with
  | none => exact ⟨b, off, rfl⟩
  | some sp =>
    exfalso
    rw [show (Addr.mk b off (some sp)).add 0 = Addr.mk b off (some sp) from rfl] at h
    unfold World.cell? at h
    split at h <;> simp at h

theorem Try.cells35 : Try.prog.cellsOf 35 = 3 := by kernel_rfl
theorem Try.cells3 : Try.prog.cellsOf 3 = 1 := by kernel_rfl

theorem acts09_of {H : Type} {enc : TypeId × Value → H} {w : World} {base : Nat} {spare : Nat → Bool} {held : Bool} {fuel : Nat} {a : Option Addr} {len cap : Nat} {x : DataW H × List MemPlace}
    (h : DataW.trod enc Try.prog w base spare held fuel 31 [.slice a len cap] = some x) : ∃ Z : List (Int × Int × Int), Z.length = len ∧ len ≤ 9223372036854775807 ∧ ReadsB w a Z := by
  rcases Deep.open_slice Try.underlying31 h with ⟨hcs, _⟩ | ⟨ad, l, c, m, n, D, Pl, hcs, hb, hl, hm, hmm, hx, hi⟩
  · simp at hcs
    obtain ⟨rfl, rfl, rfl⟩ := hcs
    exact ⟨[], rfl, by omega, fun j hj => by simp at hj⟩
  · simp at hcs
    obtain ⟨rfl, rfl, rfl⟩ := hcs
    have hlm : len ≤ m := by rw [hmm]; split <;> omega
    have each : ∀ i, i < len → ∃ q : Int × Int × Int, w.cell? (ad.add (i * 3)) = some (.int .i64 q.1) ∧ w.cell? (ad.add (i * 3 + 1)) = some (.int .i64 q.2.1) ∧ w.cell? (ad.add (i * 3 + 2)) = some (.int .i64 q.2.2) := by
      intro i hi'
      obtain ⟨cs', h1, h2⟩ := hi i (by omega)
      rw [Try.cells35] at h1
      obtain ⟨_, hlen, hcell⟩ := World.cells?_some h1
      obtain ⟨xs, k, hk, hxy, _, hxl, hf⟩ := DataW.trod_struct Try.underlying35 h2
      match cs', hlen, xs, hxl with
      | [v0, v1, v2], _, [y0, y1, y2], _ =>
        have g0 := hf 0 _ rfl
        have g1 := hf 1 _ rfl
        have g2 := hf 2 _ rfl
        simp [Try.cells3] at g0 g1 g2
        have e0 := hcell 0 (by omega)
        have e1 := hcell 1 (by omega)
        have e2 := hcell 2 (by omega)
        rw [Deep.add_add] at e0 e1 e2
        obtain ⟨n0, k0, _, _⟩ := DataW.trod_int Try.underlying3 g0
        obtain ⟨n1, k1, _, _⟩ := DataW.trod_int Try.underlying3 g1
        obtain ⟨n2, k2, _, _⟩ := DataW.trod_int Try.underlying3 g2
        simp at k0 k1 k2
        refine ⟨(n0, n1, n2), ?_, ?_, ?_⟩
        · rw [← k0]; simpa using e0
        · rw [← k1]; simpa using e1
        · rw [← k2]; simpa using e2
    obtain ⟨q, hq⟩ := Deep.choose_lt each
    refine ⟨(List.range len).map q, by simp, by simp only [maxLen] at hm; omega, fun j hj => ?_⟩
    have hj' : j < len := by simpa using hj
    obtain ⟨b, off, rfl⟩ := add_none9 (hq 0 (by omega)).1
    obtain ⟨h0, h1, h2⟩ := hq j hj'
    rw [Addr.add_lit] at h0 h1 h2
    have hg : ((List.range len).map q).getD j (0, 0, 0) = q j := by simp [List.getD_eq_getElem?_getD, List.getElem?_map, List.getElem?_range hj']
    rw [hg]
    exact ⟨b, off, rfl, World.block_lt_of_cell? _ _ h0, h0, by rw [← Nat.add_assoc] at h1; exact h1, by rw [← Nat.add_assoc] at h2; exact h2⟩

end Go.Proofs.Ytjcmbddiffebhaa
