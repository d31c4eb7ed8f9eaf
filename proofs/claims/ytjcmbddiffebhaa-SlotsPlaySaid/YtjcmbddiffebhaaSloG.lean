/-
  Plain laws of the places: those that are used, rising; how many there are behind each deed.
-/
import Derived.Test.YtjcmbddiffebhaaSloF
import Derived.Test.YtjcmbddiffebhaaInts
namespace Go.Proofs.Ytjcmbddiffebhaa
open Go.RowKit

namespace St
variable {s : St}
theorem Ok.take_len (h : s.Ok) (hf : s.full = false) (x : Int) : (s.take x).len = s.len + 1 := by
  have hbl := h.blen
  cases hb : s.B with
  | nil =>
    have ht : s.take x = ⟨s.T ++ [some x], [], s.most⟩ := by unfold St.take; rw [hf]; simp only [Bool.false_eq_true, if_false]; rw [hb]
    rw [ht]
    simp [St.len, hb]
  | cons b r =>
    have ht : s.take x = ⟨s.T.set b (some x), r, s.most⟩ := by unfold St.take; rw [hf]; simp only [Bool.false_eq_true, if_false]; rw [hb]
    rw [hb] at hbl
    simp only [List.length_cons] at hbl
    rw [ht]
    simp only [St.len, hb, List.length_set, List.length_cons]
    omega
theorem Ok.give_len' (h : s.Ok) {i : Int} (hh : s.has i = true) : (s.give i).len + 1 = s.len := by
  have hgl := h.give_len hh
  have hg : s.give i = ⟨s.T.set i.toNat none, i.toNat :: s.B, s.most⟩ := by unfold St.give; rw [if_pos hh]
  rw [hg]
  simp only [St.len, List.length_set, List.length_cons]
  omega
theorem swap_len (i x : Int) : (s.swap i x).len = s.len := by
  unfold St.swap
  split
  · simp [St.len]
  · rfl
theorem Ok.len_most (h : s.Ok) : s.len ≤ s.most := by
  have := h.le
  unfold St.len
  omega

theorem swap_at {i : Int} (hh : s.has i = true) (x : Int) : (s.swap i x).has i = true ∧ (s.swap i x).get i = x := by
  obtain ⟨h0, hlt, _⟩ := has_lt hh
  have hg : s.swap i x = ⟨s.T.set i.toNat (some x), s.B, s.most⟩ := by unfold St.swap; rw [if_pos hh]
  have e : (s.T.set i.toNat (some x)).getD i.toNat none = some x := by rw [getD_set _ _ _ _ _ hlt, if_pos rfl]
  rw [hg]
  constructor
  · show (decide (0 ≤ i) && ((s.T.set i.toNat (some x)).getD i.toNat none).isSome) = true
    rw [e]; simp [h0]
  · show (if 0 ≤ i then ((s.T.set i.toNat (some x)).getD i.toNat none).getD 0 else 0) = x
    rw [if_pos h0, e]; rfl
theorem swap_no' {i : Int} (hh : s.has i = false) (x : Int) : s.swap i x = s := by simp [St.swap, hh]
theorem swap_used (i x : Int) : (s.swap i x).used = s.used := by
  unfold St.swap
  split
  · rename_i hh
    obtain ⟨h0, hlt, hs⟩ := has_lt hh
    unfold St.used
    simp only [List.length_set]
    have : (fun j : Nat => ((s.T.set i.toNat (some x)).getD j none).isSome) = fun j : Nat => (s.T.getD j none).isSome := by
      funext j
      rw [getD_set _ _ _ _ _ hlt]
      split
      · rename_i e; rw [e, hs]; rfl
      · rfl
    rw [this]
  · rfl

theorem used_sorted : List.Pairwise (fun a b => a < b) s.used := by
  unfold St.used
  rw [List.pairwise_map]
  refine List.Pairwise.imp ?_ (List.Pairwise.filter _ List.pairwise_lt_range)
  intro a b h
  show (a : Int) < (b : Int)
  omega
theorem used_rising (j : Nat) (h0 : 0 < j) (hj : j < s.used.length) : s.used.getD (j - 1) 0 < s.used.getD j 0 := by
  have h := List.pairwise_iff_getElem.1 (used_sorted (s := s)) (j - 1) j (by omega) hj (by omega)
  rw [List.getD_eq_getElem?_getD, List.getD_eq_getElem?_getD, List.getElem?_eq_getElem (by omega), List.getElem?_eq_getElem hj]
  exact h
theorem used_has (j : Nat) (hj : j < s.used.length) : s.has (s.used.getD j 0) = true := by
  have hm : s.used.getD j 0 ∈ s.used := by
    rw [List.getD_eq_getElem?_getD, List.getElem?_eq_getElem hj]
    exact List.getElem_mem hj
  unfold St.used at hm
  rw [List.mem_map] at hm
  obtain ⟨k, hk, e⟩ := hm
  rw [List.mem_filter] at hk
  have e' : s.used.getD j 0 = (k : Int) := e.symm
  rw [e']
  unfold St.has
  rw [show ((k : Nat) : Int).toNat = k by omega, hk.2]
  simp
end St
theorem Slo.drew {w : World} {p : Nat} {s : St} (h : Slo w p s) : Slo w.drew p s := h.drewN 1

end Go.Proofs.Ytjcmbddiffebhaa
