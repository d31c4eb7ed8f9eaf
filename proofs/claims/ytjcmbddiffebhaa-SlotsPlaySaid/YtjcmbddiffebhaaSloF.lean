/-
  Plain laws of the places: how many are used; a row of numbers that the call owns; an argument's list of deeds.
-/
import Derived.Test.YtjcmbddiffebhaaSloE
import Derived.Test.YtjcmbddiffebhaaArgs
import Derived.ProofKit
namespace Go.Proofs.Ytjcmbddiffebhaa
open Go.RowKit

theorem nodup_sub : ∀ (L M : List Nat), L.Nodup → (∀ x ∈ L, x ∈ M) → L.length ≤ M.length
  | [], M, _, _ => by simp
  | x :: L, M, nd, h => by
    rw [List.nodup_cons] at nd
    have hx := h x (by simp)
    have := nodup_sub L (M.erase x) nd.2 (fun y hy => (List.mem_erase_of_ne (fun e : y = x => nd.1 (e ▸ hy))).2 (h y (by simp [hy])))
    have h1 := List.length_erase_of_mem hx
    have h2 : 0 < M.length := List.length_pos_of_mem hx
    simp only [List.length_cons]
    omega

theorem filter_split {α : Type} (p : α → Bool) (L : List α) : (L.filter p).length + (L.filter fun x => !p x).length = L.length := by
  induction L with
  | nil => rfl
  | cons x L ih =>
    cases h : p x with
    | true => rw [List.filter_cons_of_pos h, List.filter_cons_of_neg (by simp [h])]; simp only [List.length_cons]; omega
    | false => rw [List.filter_cons_of_neg (by simp [h]), List.filter_cons_of_pos (by simp [h])]; simp only [List.length_cons]; omega

namespace St
variable {s : St}
theorem Ok.used_len (h : s.Ok) : s.used.length = s.len := by
  have h1 := filter_split (fun i => (s.T.getD i none).isSome) (List.range s.T.length)
  have nd : ((List.range s.T.length).filter fun i => !(s.T.getD i none).isSome).Nodup := List.nodup_range.filter _
  have mem : ∀ i, i ∈ ((List.range s.T.length).filter fun i => !(s.T.getD i none).isSome) ↔ i ∈ s.B := by
    intro i
    rw [h.fr i, List.mem_filter, List.mem_range]
    simp
  have h2 := nodup_sub _ s.B nd (fun x hx => (mem x).1 hx)
  have h3 := nodup_sub s.B _ h.nd (fun x hx => (mem x).2 hx)
  unfold St.used St.len
  rw [List.length_map]
  rw [List.length_range] at h1
  omega

/-- how many of the first j places have a thing -/
def cnt (s : St) (j : Nat) : Nat := ((List.range j).filter fun i : Nat => s.has i).length
theorem cnt_succ (j : Nat) : s.cnt (j + 1) = if s.has j then s.cnt j + 1 else s.cnt j := by
  unfold cnt
  rw [List.range_succ, List.filter_append]
  cases h : s.has j <;> simp [h]
theorem cnt_le (j : Nat) : s.cnt j ≤ j := by
  have := List.length_filter_le (fun i : Nat => s.has i) (List.range j)
  simpa [cnt] using this
theorem Ok.cnt_len (h : s.Ok) : s.cnt s.most = s.len := by
  have h0 : s.cnt s.T.length = s.len := by
    rw [← h.used_len]
    unfold cnt St.used
    rw [List.length_map]
    have : (fun i : Nat => s.has i) = fun i : Nat => (s.T.getD i none).isSome := by
      funext i
      unfold St.has
      rw [show ((i : Nat) : Int).toNat = i by omega]
      simp only [Int.natCast_nonneg, decide_true, Bool.true_and]
    rw [this]
  have h1 : ∀ d, s.cnt (s.T.length + d) = s.cnt s.T.length := by
    intro d
    induction d with
    | zero => rfl
    | succ d ih =>
      rw [← Nat.add_assoc, cnt_succ, ih]
      have : s.has ((s.T.length + d : Nat) : Int) = false := by
        cases hh : s.has ((s.T.length + d : Nat) : Int) with
        | false => rfl
        | true => have := (has_lt hh).2.1; omega
      rw [this]; rfl
  have := h1 (s.most - s.T.length)
  rw [show s.T.length + (s.most - s.T.length) = s.most by have := h.le; omega] at this
  rw [this, h0]

theorem has_set {L : List (Option Int)} {B B' : List Nat} {m m' : Nat} {k j : Nat} (hk : k < L.length) (hj : j ≠ k) (v : Option Int) :
    St.has ⟨L.set k v, B, m⟩ j = St.has ⟨L, B', m'⟩ j ∧ St.get ⟨L.set k v, B, m⟩ j = St.get ⟨L, B', m'⟩ j := by
  unfold St.has St.get
  rw [show ((j : Nat) : Int).toNat = j by omega]
  have : (L.set k v).getD j none = L.getD j none := by rw [getD_set _ _ _ _ _ hk, if_neg hj]
  simp only [this]
  exact ⟨trivial, trivial⟩

/-- what a take does to each place -/
theorem Ok.take_at (h : s.Ok) (hf : s.full = false) (x : Int) : s.spot < s.most ∧ s.has s.spot = false ∧ (s.take x).has s.spot = true ∧ (s.take x).get s.spot = x ∧
    ∀ j : Nat, j ≠ s.spot → (s.take x).has j = s.has j ∧ (s.take x).get j = s.get j := by
  have hl : s.len < s.most := by simpa [St.full] using hf
  have hle := h.le
  cases hb : s.B with
  | nil =>
    have h0 : s.B.length = 0 := by rw [hb]; rfl
    have hsp : s.spot = s.T.length := by unfold St.spot; rw [hb]
    have ht : s.take x = ⟨s.T ++ [some x], [], s.most⟩ := by unfold St.take; rw [hf]; simp only [Bool.false_eq_true, if_false]; rw [hb]
    have hat : (s.T ++ [some x]).getD s.T.length none = some x := by rw [getD_snoc, if_pos rfl]
    rw [ht, hsp]
    refine ⟨by unfold St.len at hl; omega, ?_, ?_, ?_, fun j hj => ?_⟩
    · cases hh : s.has (s.T.length : Int) with
      | false => rfl
      | true => have := (has_lt hh).2.1; omega
    · unfold St.has
      rw [show ((s.T.length : Nat) : Int).toNat = s.T.length by omega]
      show (decide (0 ≤ (s.T.length : Int)) && ((s.T ++ [some x]).getD s.T.length none).isSome) = true
      rw [hat]; simp
    · unfold St.get
      rw [if_pos (by omega), show ((s.T.length : Nat) : Int).toNat = s.T.length by omega]
      show ((s.T ++ [some x]).getD s.T.length none).getD 0 = x
      rw [hat]; rfl
    · unfold St.has St.get
      rw [show ((j : Nat) : Int).toNat = j by omega]
      have : (s.T ++ [some x]).getD j none = s.T.getD j none := by rw [getD_snoc, if_neg hj]
      simp only [this]
      exact ⟨trivial, trivial⟩
  | cons b r =>
    have hbm : b ∈ s.B := by rw [hb]; simp
    obtain ⟨hlt, hnone⟩ := (h.fr b).1 hbm
    have hsp : s.spot = b := by unfold St.spot; rw [hb]
    have ht : s.take x = ⟨s.T.set b (some x), r, s.most⟩ := by unfold St.take; rw [hf]; simp only [Bool.false_eq_true, if_false]; rw [hb]
    have hat : (s.T.set b (some x)).getD b none = some x := by rw [getD_set _ _ _ _ _ hlt, if_pos rfl]
    rw [ht, hsp]
    refine ⟨by omega, ?_, ?_, ?_, fun j hj => has_set hlt hj (some x)⟩
    · unfold St.has
      rw [show ((b : Nat) : Int).toNat = b by omega, hnone]; simp
    · unfold St.has
      rw [show ((b : Nat) : Int).toNat = b by omega]
      show (decide (0 ≤ (b : Int)) && ((s.T.set b (some x)).getD b none).isSome) = true
      rw [hat]; simp
    · unfold St.get
      rw [if_pos (by omega), show ((b : Nat) : Int).toNat = b by omega]
      show ((s.T.set b (some x)).getD b none).getD 0 = x
      rw [hat]; rfl

/-- what is given back -/
theorem give_at {i : Nat} (hh : s.has i = true) : (s.give i).has i = false ∧ ∀ j : Nat, j ≠ i → (s.give i).has j = s.has j ∧ (s.give i).get j = s.get j := by
  obtain ⟨_, hlt, _⟩ := has_lt hh
  rw [show ((i : Nat) : Int).toNat = i by omega] at hlt
  have hg : s.give i = ⟨s.T.set i none, i :: s.B, s.most⟩ := by unfold St.give; rw [if_pos hh, show ((i : Nat) : Int).toNat = i by omega]
  rw [hg]
  refine ⟨?_, fun j hj => has_set hlt hj none⟩
  unfold St.has
  rw [show ((i : Nat) : Int).toNat = i by omega]
  show (decide (0 ≤ (i : Int)) && ((s.T.set i none).getD i none).isSome) = false
  rw [getD_set _ _ _ _ _ hlt, if_pos rfl]; simp

theorem take_most (x : Int) : (s.take x).most = s.most := by unfold St.take; split <;> (try split) <;> rfl
theorem give_most (i : Int) : (s.give i).most = s.most := by unfold St.give; split <;> rfl
theorem swap_most (i x : Int) : (s.swap i x).most = s.most := by unfold St.swap; split <;> rfl
end St

/-! ### a row of numbers at block g -/
def Row (w : World) (g n : Nat) (L : List Int) : Prop := Has w g (.slice (some ⟨g, 0, none⟩) n n) L ∧ L.length = n

section
variable {w w' : World} {g n p : Nat} {L : List Int} {s : St}
theorem Row.cell (h : Row w g n L) (j : Nat) (hj : j < n) : w.cell? ⟨g, j, none⟩ = some (.int .i64 (L.getD j 0)) := by
  obtain ⟨g', hA, _, hc⟩ := h.1.cellAt rfl j (by rw [h.2]; exact hj)
  injection hA with hA
  injection hA with hA
  rw [hA]; exact hc
theorem Row.frozen (h : Row w g n L) (j : Nat) : w.frozen? ⟨g, j, none⟩ = false := World.ownsRow.frozenAt (n := n) (by have := h.1; unfold Has at this; rw [h.2] at this; exact this) j
theorem Row.set (h : Row w g n L) (j : Nat) (x : Int) : Row (w.setCell ⟨g, j, none⟩ (.int .i64 x)) g n (L.set j x) := by
  have ho : w.ownsRow g 3 1 (.slice (some ⟨g, 0, none⟩) n n) n (ints L) := by have := h.1; unfold Has at this; rw [h.2] at this; exact this
  have h1 := (World.ownsRow.stored ho j (.int .i64 x)).1
  refine ⟨?_, by rw [List.length_set]; exact h.2⟩
  unfold Has
  rw [List.length_set, h.2]
  have : ints (L.set j x) = (ints L).set j (.int .i64 x) := by unfold ints; rw [List.map_set]
  rw [this]; exact h1
theorem Row.skept (h : Row w g n L) (hk : SKept p w w') : Row w' g n L := ⟨hk.has h.1, h.2⟩
theorem Row.below (h : Row w g n L) (hb : Below w.heap.size w w') : Row w' g n L := ⟨h.1.below hb, h.2⟩
theorem Row.drewN (h : Row w g n L) (q : Nat) : Row (w.drewN q) g n L := h
theorem Row.slo (h : Row w g n L) (hs : Slo w p s) (j : Nat) (x : Int) : Slo (w.setCell ⟨g, j, none⟩ (.int .i64 x)) p s := by
  have ho : w.ownsRow g 3 1 (.slice (some ⟨g, 0, none⟩) n n) n (ints L) := by have := h.1; unfold Has at this; rw [h.2] at this; exact this
  exact hs.setHas h.1 (World.ownsRow.stored ho j (.int .i64 x)).2 (.inr rfl)

theorem mk22 (n : Nat) (hn : n ≤ 1000) (W : World) : (Instr.makeSlice 22 (.int .i64 (n : Int)) (.int .i64 (n : Int))).run Try.prog W = .ok (.slice (some ⟨W.heap.size, 0, none⟩) n n) (W.alloc (.cells (madeCells #[.int .i64 0] n) 3)) := by
  obtain ⟨i, hi, h0, h1, h2⟩ := info_parts Try.info3
  have h := run_make (P := Try.prog) W 22 3 i _ Try.underlying22 hi h0 .i64 .i64 (n : Int) (n : Int) (by omega) (by omega) (by rw [h2]; omega) (by omega)
  rw [h, h1, show (n : Int).toNat = n by omega, Nat.mul_one]
  rfl
theorem row_made (W : World) (n : Nat) (hn : n ≤ 1000) : Row (W.alloc (.cells (madeCells #[.int .i64 0] n) 3)) W.heap.size n (List.replicate n 0) := by
  have h := World.ownsRow_lit (base := W.heap.size) (e := 3) (size := 1) W (madeCells #[.int .i64 0] n) n (Nat.le_refl _) (by simp only [maxLen]; omega) (by simp [size_madeCells])
  rw [toList_madeCells_one] at h
  refine ⟨?_, by simp⟩
  unfold Has ints
  rw [List.map_replicate, List.length_replicate]
  exact h
end

/-! ### an argument's list of deeds: three cells each -/
def ReadsB (w : World) (A : Option Addr) (Z : List (Int × Int × Int)) : Prop :=
  ∀ j, j < Z.length → ∃ b off, A = some ⟨b, off, none⟩ ∧ b < w.heap.size ∧ w.cell? ⟨b, off + j * 3, none⟩ = some (.int .i64 (Z.getD j (0, 0, 0)).1) ∧
    w.cell? ⟨b, off + j * 3 + 1, none⟩ = some (.int .i64 (Z.getD j (0, 0, 0)).2.1) ∧ w.cell? ⟨b, off + j * 3 + 2, none⟩ = some (.int .i64 (Z.getD j (0, 0, 0)).2.2)

end Go.Proofs.Ytjcmbddiffebhaa
