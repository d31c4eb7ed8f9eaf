/-
  recency.List as a list of numbers in their order: what each method does to it.
-/
import Derived.Test.YtjcmbddiffebhaaRing
namespace Go.Proofs.Ytjcmbddiffebhaa
open Go.RowKit

theorem max2_i (k k' : IntKind) (x y : Int) : Builtin.max2 (.int k x) (.int k' y) = pure (.int k (if x < y then y else x)) := by simp only [Builtin.max2, gt_iff_lt]
theorem min2_i (k k' : IntKind) (x y : Int) : Builtin.min2 (.int k x) (.int k' y) = pure (.int k (if y < x then y else x)) := by simp only [Builtin.min2]
theorem max_2 (ats : Array TypeId) (ty : TypeId) (a b : Value) : Builtin.max_ ats ty #[a, b] = (Builtin.max2 a b >>= fun s => pure s) := by simp only [Builtin.max_, List.foldlM_cons, List.foldlM_nil]
theorem min_2 (ats : Array TypeId) (ty : TypeId) (a b : Value) : Builtin.min_ ats ty #[a, b] = (Builtin.min2 a b >>= fun s => pure s) := by simp only [Builtin.min_, List.foldlM_cons, List.foldlM_nil]
attribute [local go_sem] max2_i min2_i max_2 min_2

/-- how many there may be -/
def clamp (most : Int) : Nat := (max 0 (min most 1024)).toNat
theorem clamp_le (most : Int) : clamp most ≤ 1024 := by unfold clamp; omega
theorem clamp_of (m : Nat) (h : m ≤ 1024) : clamp m = m := by unfold clamp; omega

theorem Try.info74 : (Try.prog.info? 74).map (fun i => (i.zero, i.size, i.bytes)) = some (some (.agg #[.int .i64 0, .int .i64 0]), 2, 16) := by kernel_rfl

theorem mk53 (m : Nat) (hm : m ≤ 1024) (W : World) : (Instr.makeSlice 53 (.int .i64 ((m : Int) + 1)) (.int .i64 ((m : Int) + 1))).run Try.prog W = .ok (.slice (some ⟨W.heap.size, 0, none⟩) (m + 1) (m + 1)) (W.alloc (.cells (madeCells #[.int .i64 0, .int .i64 0] ((m + 1) * 2)) 74)) := by
  obtain ⟨i, hi, h0, h1, h2⟩ := info_parts Try.info74
  have h := run_make (P := Try.prog) W 53 74 i _ Try.underlying53 hi h0 .i64 .i64 ((m : Int) + 1) ((m : Int) + 1) (by omega) (by omega) (by rw [h2]; omega) (by omega)
  rw [h, h1, show ((m : Int) + 1).toNat = m + 1 by omega]
  rfl

theorem mk27 (m : Nat) (hm : m ≤ 1024) (W : World) : (Instr.makeSlice 27 (.int .i64 (m : Int)) (.int .i64 (m : Int))).run Try.prog W = .ok (.slice (some ⟨W.heap.size, 0, none⟩) m m) (W.alloc (.cells (madeCells #[.bool false] m) 4)) := by
  obtain ⟨i, hi, h0, h1, h2⟩ := info_parts Try.info4
  have h := run_make (P := Try.prog) W 27 4 i _ Try.underlying27 hi h0 .i64 .i64 (m : Int) (m : Int) (by omega) (by omega) (by rw [h2]; omega) (by omega)
  rw [h, h1, show (m : Int).toNat = m by omega, Nat.mul_one]
  rfl

/-- the list lies in the three blocks from lo on, and its numbers stand in the order L -/
def Rec (w : World) (lo m : Nat) (L : List Int) : Prop :=
  ∃ (bl bi : Nat) (ah bh : Int → Int) (is : Int → Bool), ((bl = lo ∧ bi = lo + 1) ∨ (bl = lo + 1 ∧ bi = lo)) ∧ Low w (lo + 2) bl bi m L.length ah bh is ∧
    Chain m L ah bh ∧ (∀ k : Nat, k < m → is k = decide ((k : Int) ∈ L)) ∧ Good m L

def In3 (lo : Nat) : Nat → Prop := fun k => lo ≤ k ∧ k < lo + 3

theorem madeC (m j : Nat) (hj : j < (m + 1) * 2) : (madeCells #[.int .i64 0, .int .i64 0] ((m + 1) * 2))[j]? = some (.int .i64 0) := by
  have h : (madeCells #[Value.int .i64 0, .int .i64 0] ((m + 1) * 2)).size = (m + 1) * 2 := by simp [size_madeCells]
  rw [Array.getElem?_eq_getElem (by omega)]
  have : j % 2 = 0 ∨ j % 2 = 1 := by omega
  rcases this with e | e <;> simp [madeCells, e]

theorem madeD (m j : Nat) (hj : j < m) : (madeCells #[Value.bool false] m)[j]? = some (.bool false) := by
  have h : (madeCells #[Value.bool false] m).size = m := by simp [size_madeCells]
  rw [Array.getElem?_eq_getElem (by omega)]
  simp [madeCells, Nat.mod_one]

/-- what New leaves -/
theorem new_low (w' : World) (p bl bi m : Nat) (hm : m ≤ 1024) (d1 : p ≠ bl) (d2 : p ≠ bi) (d3 : bl ≠ bi)
    (h0 : w'.heap[p]? = some (.cells #[.slice (some ⟨bl, 0, none⟩) (m + 1) (m + 1), .slice (some ⟨bi, 0, none⟩) m m, .int .i64 0] 55 (0, 0)))
    (h1 : w'.heap[bl]? = some (.cells (((madeCells #[.int .i64 0, .int .i64 0] ((m + 1) * 2)).setIfInBounds (m * 2) (.int .i64 m)).setIfInBounds (m * 2 + 1) (.int .i64 m)) 74 (0, 0)))
    (h2 : w'.heap[bi]? = some (.cells (madeCells #[.bool false] m) 4 (0, 0))) :
    Low w' p bl bi m 0 (upd (fun _ => 0) m m) (upd (fun _ => 0) m m) (fun _ => false) := by
  have hsz : (madeCells #[Value.int .i64 0, .int .i64 0] ((m + 1) * 2)).size = (m + 1) * 2 := by simp [size_madeCells]
  refine ⟨d1, d2, d3, hm, by simp [World.cell?, h0], by simp [World.cell?, h0], by simp [World.cell?, h0], by simp [World.frozen?, h0], ?_, ?_, by simp [World.frozen?, h1], ?_, by simp [World.frozen?, h2], lt_of_block h1, lt_of_block h2⟩
  · intro a ha
    simp only [World.cell?, h1]
    rw [if_neg (by simp)]
    rw [Array.getElem?_setIfInBounds_ne (by omega)]
    unfold upd
    by_cases e : a = m
    · subst e; rw [Array.getElem?_setIfInBounds_self_of_lt (by rw [hsz]; omega), if_pos rfl]
    · rw [Array.getElem?_setIfInBounds_ne (by omega), if_neg (by omega)]; exact madeC m _ (by omega)
  · intro a ha
    simp only [World.cell?, h1]
    rw [if_neg (by simp)]
    unfold upd
    by_cases e : a = m
    · subst e; rw [Array.getElem?_setIfInBounds_self_of_lt (by rw [Array.size_setIfInBounds, hsz]; omega), if_pos rfl]
    · rw [Array.getElem?_setIfInBounds_ne (by omega), Array.getElem?_setIfInBounds_ne (by omega), if_neg (by omega)]; exact madeC m _ (by omega)
  · intro a ha
    simp only [World.cell?, h2]
    rw [if_neg (by simp)]
    exact madeD m a ha

theorem three_blocks (w : World) (o1 o2 o3 : Obj) :
    ((((w.alloc o1).alloc o2).alloc o3).drew).heap[w.heap.size]? = some o1 ∧ ((((w.alloc o1).alloc o2).alloc o3).drew).heap[w.heap.size + 1]? = some o2 ∧
    ((((w.alloc o1).alloc o2).alloc o3).drew).heap[w.heap.size + 2]? = some o3 ∧ Below w.heap.size w ((((w.alloc o1).alloc o2).alloc o3).drew) ∧ ((((w.alloc o1).alloc o2).alloc o3).drew).heap.size = w.heap.size + 3 := by
  have s1 : (w.alloc o1).heap.size = w.heap.size + 1 := by simp
  have s2 : ((w.alloc o1).alloc o2).heap.size = w.heap.size + 2 := by simp
  refine ⟨?_, ?_, ?_, ((((Below.refl _ w).alloc (Nat.le_refl _) o1).alloc (by simp) o2).alloc (by simp; omega) o3).drew, by simp⟩
  · show (((w.alloc o1).alloc o2).alloc o3).heap[w.heap.size]? = _
    rw [Below.heap_alloc _ _ _ (by omega), Below.heap_alloc _ _ _ (by omega)]
    exact heap_alloc_new w o1
  · show (((w.alloc o1).alloc o2).alloc o3).heap[w.heap.size + 1]? = _
    rw [Below.heap_alloc _ _ _ (by omega), ← s1]
    exact heap_alloc_new _ o2
  · show (((w.alloc o1).alloc o2).alloc o3).heap[w.heap.size + 2]? = _
    rw [← s2]
    exact heap_alloc_new _ o3

def NewPost (w : World) (m : Nat) (e : Ending) (w' : World) : Prop :=
  e = .returned (.pointer (some ⟨w.heap.size + 2, 0, none⟩)) ∧ Rec w' w.heap.size m [] ∧ Below w.heap.size w w' ∧ w'.heap.size = w.heap.size + 3

theorem new_rec_of (w w' : World) (m bl bi : Nat) (hp : (bl = w.heap.size ∧ bi = w.heap.size + 1) ∨ (bl = w.heap.size + 1 ∧ bi = w.heap.size))
    (h : Low w' (w.heap.size + 2) bl bi m 0 (upd (fun _ => 0) m m) (upd (fun _ => 0) m m) (fun _ => false)) (hb : Below w.heap.size w w') (hs : w'.heap.size = w.heap.size + 3) :
    NewPost w m (.returned (.pointer (some ⟨w.heap.size + 2, 0, none⟩))) w' := by
  refine ⟨rfl, ⟨bl, bi, _, _, _, hp, h, ?_, ?_, ?_⟩, hb, hs⟩
  · intro j hj
    obtain rfl : j = 0 := by simpa using hj
    have e1 : nth m [] 1 = m := rfl
    rw [nth_zero, e1]; simp [upd]
  · intro k _; simp
  · exact ⟨List.nodup_nil, fun x hx => by simp at hx⟩

set_option maxHeartbeats 400000 in
theorem new_rec (most : Int) (w : World) : Calls Try.prog 14 #[.int .i64 most] w (NewPost w (clamp most)) := by
  have hm := clamp_le most
  obtain ⟨m, e0⟩ : ∃ m, clamp most = m := ⟨_, rfl⟩
  rw [e0] at hm ⊢
  obtain ⟨q, e1⟩ : ∃ q, (if 1024 < most then 1024 else most) = q := ⟨_, rfl⟩
  have e2 : (if 0 < q then q else 0) = (m : Int) := by unfold clamp at e0; subst e1; split <;> split at * <;> omega
  have k1 := mk53 m hm
  have k2 := mk27 m hm
  have c0 := madeC m (m * 2) (by omega)
  have c1 := madeC m (m * 2 + 1) (by omega)
  obtain ⟨C, hC⟩ : ∃ C, C = madeCells #[Value.int .i64 0, .int .i64 0] ((m + 1) * 2) := ⟨_, rfl⟩
  obtain ⟨D, hD⟩ : ∃ D, D = madeCells #[Value.bool false] m := ⟨_, rfl⟩
  rw [← hC] at k1 c0 c1
  rw [← hD] at k2
  have HC := Lib.hid hC
  have HD := Lib.hid hD
  clear e0 hC hD
  go_enter Try.func14, Try.ntmps14
  go_wp2_with fail
  go_region
  all_goals go_wp2_with fail
  all_goals go_ret
  · obtain ⟨t0, t1, t2, t3, t4⟩ := three_blocks w (.cells ((C.setIfInBounds (m * 2) (.int .i64 m)).setIfInBounds (m * 2 + 1) (.int .i64 m)) 74) (.cells D 4)
      (.cells #[.slice (some ⟨w.heap.size, 0, none⟩) (m + 1) (m + 1), .slice (some ⟨w.heap.size + 1, 0, none⟩) m m, .int .i64 0] 55)
    rw [HC.out] at t0
    rw [HD.out] at t1
    rw [HC.out, HD.out]
    exact new_rec_of w _ m w.heap.size (w.heap.size + 1) (.inl ⟨rfl, rfl⟩) (new_low _ _ _ _ m hm (by omega) (by omega) (by omega) (by rw [HC.out, HD.out] at t2; exact t2) (by rw [HD.out] at t0; exact t0) (by rw [HC.out] at t1; exact t1)) (by rw [HC.out, HD.out] at t3; exact t3) (by rw [HC.out, HD.out] at t4; exact t4)
  · obtain ⟨t0, t1, t2, t3, t4⟩ := three_blocks w (.cells D 4) (.cells ((C.setIfInBounds (m * 2) (.int .i64 m)).setIfInBounds (m * 2 + 1) (.int .i64 m)) 74)
      (.cells #[.slice (some ⟨w.heap.size + 1, 0, none⟩) (m + 1) (m + 1), .slice (some ⟨w.heap.size, 0, none⟩) m m, .int .i64 0] 55)
    rw [HD.out] at t0
    rw [HC.out] at t1
    rw [HC.out, HD.out]
    exact new_rec_of w _ m (w.heap.size + 1) w.heap.size (.inr ⟨rfl, rfl⟩) (new_low _ _ _ _ m hm (by omega) (by omega) (by omega) (by rw [HC.out, HD.out] at t2; exact t2) (by rw [HD.out] at t1; exact t1) (by rw [HC.out] at t0; exact t0)) (by rw [HC.out, HD.out] at t3; exact t3) (by rw [HC.out, HD.out] at t4; exact t4)

end Go.Proofs.Ytjcmbddiffebhaa
