/-
  kedgeref09.New.
-/
import Derived.Test.YtjcmbddiffebhaaRef09D
namespace Go.Proofs.Ytjcmbddiffebhaa
open Go.RowKit
attribute [local go_sem] smax2 smin2 smax_2 smin_2

theorem mk22' (n : Nat) (hn : n ≤ 2000) (W : World) : (Instr.makeSlice 22 (.int .i64 (n : Int)) (.int .i64 (n : Int))).run Try.prog W = .ok (.slice (some ⟨W.heap.size, 0, none⟩) n n) (W.alloc (.cells (madeCells #[.int .i64 0] n) 3)) := by
  obtain ⟨i, hi, h0, h1, h2⟩ := info_parts Try.info3
  have h := run_make (P := Try.prog) W 22 3 i _ Try.underlying22 hi h0 .i64 .i64 (n : Int) (n : Int) (by omega) (by omega) (by rw [h2]; omega) (by omega)
  rw [h, h1, show (n : Int).toNat = n by omega, Nat.mul_one]
  rfl
theorem mk27' (n : Nat) (hn : n ≤ 2000) (W : World) : (Instr.makeSlice 27 (.int .i64 (n : Int)) (.int .i64 (n : Int))).run Try.prog W = .ok (.slice (some ⟨W.heap.size, 0, none⟩) n n) (W.alloc (.cells (madeCells #[.bool false] n) 4)) := by
  obtain ⟨i, hi, h0, h1, h2⟩ := info_parts Try.info4
  have h := run_make (P := Try.prog) W 27 4 i _ Try.underlying27' hi h0 .i64 .i64 (n : Int) (n : Int) (by omega) (by omega) (by rw [h2]; omega) (by omega)
  rw [h, h1, show (n : Int).toNat = n by omega, Nat.mul_one]
  rfl

theorem made_V (W : World) (b n : Nat) (hb : b ≤ W.heap.size) (hn : n ≤ 2000) : HasE (W.alloc (.cells (madeCells #[.int .i64 0] n) 3)) b (.slice (some ⟨W.heap.size, 0, none⟩) n n) (rV ⟨[], [], n⟩) := by
  have h := World.ownsRow_lit (base := b) (e := 3) (size := 1) W (madeCells #[.int .i64 0] n) n hb (by simp only [maxLen]; omega) (by simp [size_madeCells])
  rw [toList_madeCells_one] at h
  have e : ints (rV ⟨[], [], n⟩) = List.replicate n (.int .i64 0) := by
    refine List.ext_getElem? fun j => ?_
    simp [ints, rV, St.get, List.getElem?_replicate]
    by_cases hj : j < n <;> simp [hj]
  refine .inl ?_
  rw [e, List.length_replicate]
  exact h
theorem made_I (W : World) (b n : Nat) (hb : b ≤ W.heap.size) (hn : n ≤ 2000) : HasB (W.alloc (.cells (madeCells #[.bool false] n) 4)) b (.slice (some ⟨W.heap.size, 0, none⟩) n n) (rI ⟨[], [], n⟩) := by
  have h := World.ownsRow_lit (base := b) (e := 4) (size := 1) W (madeCells #[.bool false] n) n hb (by simp only [maxLen]; omega) (by simp [size_madeCells])
  rw [toList_madeCells_one] at h
  have e : bools (rI ⟨[], [], n⟩) = List.replicate n (.bool false) := by
    refine List.ext_getElem? fun j => ?_
    simp [bools, rI, St.has, List.getElem?_replicate]
    by_cases hj : j < n <;> simp [hj]
  refine .inl ?_
  rw [e, List.length_replicate]
  exact h

def RefN (w : World) (b m : Nat) (e : Ending) (w' : World) : Prop := ∃ v, e = .returned v ∧ Ref9 w' b ⟨[], [], m⟩ v ∧ Below w.heap.size w w'

def NewF (w : World) (b g0 m : Nat) (vV vI : Value) (X : World) : Prop :=
  X.heap[g0]? = some (.cells #[vV, vI, .slice none 0 0, .int .i64 0] 60 (0, 0)) ∧ Ref9 X b ⟨[], [], m⟩ (.agg #[vV, vI, .slice none 0 0, .int .i64 0]) ∧ Below w.heap.size w X

theorem new_f1 {w w1 : World} {b g0 m : Nat} {x y z t : Value} (hT : w1.heap[g0]? = some (.cells #[x, y, z, t] 60 (0, 0))) (B1 : Below w.heap.size w w1) (hgw : w.heap.size ≤ g0) (hb : b ≤ w1.heap.size) (hm : m ≤ 1024) :
    NewF w b g0 m (.slice (some ⟨w1.heap.size, 0, none⟩) m m) (.slice (some ⟨w1.heap.size + 1, 0, none⟩) m m)
      ((((((w1.setCell ⟨g0, 0, none⟩ (.slice (some ⟨w1.heap.size, 0, none⟩) m m)).setCell ⟨g0, 1, none⟩ (.slice (some ⟨w1.heap.size + 1, 0, none⟩) m m)).setCell ⟨g0, 2, none⟩ (.slice none 0 0)).setCell ⟨g0, 3, none⟩ (.int .i64 0)).alloc
        (.cells (madeCells #[.int .i64 0] m) 3)).alloc (.cells (madeCells #[.bool false] m) 4)).drew := by
  have h0 := set_four (a := .slice (some ⟨w1.heap.size, 0, none⟩) m m) (b := .slice (some ⟨w1.heap.size + 1, 0, none⟩) m m) (c := .slice none 0 0) (d := .int .i64 0) hT
  have hB := below_four B1 hgw (.slice (some ⟨w1.heap.size, 0, none⟩) m m) (.slice (some ⟨w1.heap.size + 1, 0, none⟩) m m) (.slice none 0 0) (.int .i64 0)
  have hs : ((((w1.setCell ⟨g0, 0, none⟩ (.slice (some ⟨w1.heap.size, 0, none⟩) m m)).setCell ⟨g0, 1, none⟩ (.slice (some ⟨w1.heap.size + 1, 0, none⟩) m m)).setCell ⟨g0, 2, none⟩ (.slice none 0 0)).setCell ⟨g0, 3, none⟩ (.int .i64 0)).heap.size = w1.heap.size := by simp
  generalize ((((w1.setCell ⟨g0, 0, none⟩ (.slice (some ⟨w1.heap.size, 0, none⟩) m m)).setCell ⟨g0, 1, none⟩ (.slice (some ⟨w1.heap.size + 1, 0, none⟩) m m)).setCell ⟨g0, 2, none⟩ (.slice none 0 0)).setCell ⟨g0, 3, none⟩ (.int .i64 0)) = W at h0 hB hs ⊢
  rw [← hs] at hb h0 ⊢
  have a1 := (Below.refl W.heap.size W).alloc (Nat.le_refl _) (.cells (madeCells #[.int .i64 0] m) 3)
  have a2 := a1.alloc a1.size (.cells (madeCells #[.bool false] m) 4)
  have hV := made_V W b m hb (by omega)
  have hI := made_I (W.alloc (.cells (madeCells #[.int .i64 0] m) 3)) b m (by have := a1.size; omega) (by omega)
  have s1 : (W.alloc (.cells (madeCells #[.int .i64 0] m) 3)).heap.size = W.heap.size + 1 := by simp
  have hV2 := hV.below ((Below.refl _ _).alloc (Nat.le_refl _) (.cells (madeCells #[.bool false] m) 4))
  rw [s1] at hI
  exact ⟨(a2.block _ (lt_of_block h0)).trans h0, ⟨_, _, _, rfl, hV2, hI, .of (Has.nil _ _)⟩, hB.trans (a2.drew.mono hB.size)⟩

theorem new_f2 {w w1 : World} {b g0 m : Nat} {x y z t : Value} (hT : w1.heap[g0]? = some (.cells #[x, y, z, t] 60 (0, 0))) (B1 : Below w.heap.size w w1) (hgw : w.heap.size ≤ g0) (hb : b ≤ w1.heap.size) (hm : m ≤ 1024) :
    NewF w b g0 m (.slice (some ⟨w1.heap.size + 1, 0, none⟩) m m) (.slice (some ⟨w1.heap.size, 0, none⟩) m m)
      ((((((w1.setCell ⟨g0, 0, none⟩ (.slice (some ⟨w1.heap.size + 1, 0, none⟩) m m)).setCell ⟨g0, 1, none⟩ (.slice (some ⟨w1.heap.size, 0, none⟩) m m)).setCell ⟨g0, 2, none⟩ (.slice none 0 0)).setCell ⟨g0, 3, none⟩ (.int .i64 0)).alloc
        (.cells (madeCells #[.bool false] m) 4)).alloc (.cells (madeCells #[.int .i64 0] m) 3)).drew := by
  have h0 := set_four (a := .slice (some ⟨w1.heap.size + 1, 0, none⟩) m m) (b := .slice (some ⟨w1.heap.size, 0, none⟩) m m) (c := .slice none 0 0) (d := .int .i64 0) hT
  have hB := below_four B1 hgw (.slice (some ⟨w1.heap.size + 1, 0, none⟩) m m) (.slice (some ⟨w1.heap.size, 0, none⟩) m m) (.slice none 0 0) (.int .i64 0)
  have hs : ((((w1.setCell ⟨g0, 0, none⟩ (.slice (some ⟨w1.heap.size + 1, 0, none⟩) m m)).setCell ⟨g0, 1, none⟩ (.slice (some ⟨w1.heap.size, 0, none⟩) m m)).setCell ⟨g0, 2, none⟩ (.slice none 0 0)).setCell ⟨g0, 3, none⟩ (.int .i64 0)).heap.size = w1.heap.size := by simp
  generalize ((((w1.setCell ⟨g0, 0, none⟩ (.slice (some ⟨w1.heap.size + 1, 0, none⟩) m m)).setCell ⟨g0, 1, none⟩ (.slice (some ⟨w1.heap.size, 0, none⟩) m m)).setCell ⟨g0, 2, none⟩ (.slice none 0 0)).setCell ⟨g0, 3, none⟩ (.int .i64 0)) = W at h0 hB hs ⊢
  rw [← hs] at hb h0 ⊢
  have a1 := (Below.refl W.heap.size W).alloc (Nat.le_refl _) (.cells (madeCells #[.bool false] m) 4)
  have a2 := a1.alloc a1.size (.cells (madeCells #[.int .i64 0] m) 3)
  have hI := made_I W b m hb (by omega)
  have hV := made_V (W.alloc (.cells (madeCells #[.bool false] m) 4)) b m (by have := a1.size; omega) (by omega)
  have s1 : (W.alloc (.cells (madeCells #[.bool false] m) 4)).heap.size = W.heap.size + 1 := by simp
  have hI2 := hI.below ((Below.refl _ _).alloc (Nat.le_refl _) (.cells (madeCells #[.int .i64 0] m) 3))
  rw [s1] at hV
  exact ⟨(a2.block _ (lt_of_block h0)).trans h0, ⟨_, _, _, rfl, hV, hI2, .of (Has.nil _ _)⟩, hB.trans (a2.drew.mono hB.size)⟩

set_option maxHeartbeats 4000000 in
theorem refnew9 (most : Int) (w : World) (b : Nat) (hbw : b ≤ w.heap.size) : Calls Try.prog 35 #[.int .i64 most] w (RefN w b (kap most)) := by
  obtain ⟨m, e0⟩ : ∃ m, kap most = m := ⟨_, rfl⟩
  have hm := kap_le most
  rw [e0] at hm ⊢
  obtain ⟨q, e1⟩ : ∃ q, (if 1024 < most then 1024 else most) = q := ⟨_, rfl⟩
  have e2 : (if 0 < q then q else 0) = (m : Int) := by unfold kap at e0; subst e1; split <;> split at * <;> omega
  clear e0
  have hk1 := mk22' m (by omega)
  have hk2 := mk27' m (by omega)
  go_enter Try.func35, Try.ntmps35
  go_wp2_with fail
  obtain ⟨w1, hw1⟩ : ∃ w1, w1 = w.alloc (.cells #[.slice none 0 0, .slice none 0 0, .slice none 0 0, .int .i64 0] 60) := ⟨_, rfl⟩
  have T0 := Lib.hid (heap_alloc_new w (.cells #[.slice none 0 0, .slice none 0 0, .slice none 0 0, .int .i64 0] 60))
  have B1 := Lib.hid ((Below.refl w.heap.size w).alloc (Nat.le_refl _) (.cells #[.slice none 0 0, .slice none 0 0, .slice none 0 0, .int .i64 0] 60))
  obtain ⟨g0, hg0⟩ : ∃ g, g = w.heap.size := ⟨_, rfl⟩
  rw [← hw1] at T0 B1 ⊢
  rw [← hg0] at T0 ⊢
  have hgw : w.heap.size ≤ g0 := by omega
  clear hw1 hg0 e1 e2
  obtain ⟨j0, j1, j2, j3⟩ := four_of T0.out
  have z0' := four_fz T0.out 0
  have z1' := four_fz T0.out 1
  have z2' := four_fz T0.out 2
  have z3' := four_fz T0.out 3
  have lt0 := lt_of_block T0.out
  have ne0 := Nat.ne_of_lt lt0
  have ne0' := ne0.symm
  have ne1 : g0 ≠ w1.heap.size + 1 := by omega
  have ne1' := ne1.symm
  go_region
  · have HF := Lib.hid (new_f1 T0.out B1.out hgw (Nat.le_trans hbw B1.out.size) hm)
    generalize ((((((w1.setCell ⟨g0, 0, none⟩ (.slice (some ⟨w1.heap.size, 0, none⟩) m m)).setCell ⟨g0, 1, none⟩ (.slice (some ⟨w1.heap.size + 1, 0, none⟩) m m)).setCell ⟨g0, 2, none⟩ (.slice none 0 0)).setCell ⟨g0, 3, none⟩ (.int .i64 0)).alloc (.cells (madeCells #[.int .i64 0] m) 3)).alloc (.cells (madeCells #[.bool false] m) 4)).drew = W at HF ⊢
    obtain ⟨hb0, hR, hBB⟩ := HF.out
    obtain ⟨m0, m1, m2, m3⟩ := four_of hb0
    have HR := Lib.hid hR
    have HBB := Lib.hid hBB
    clear j0 j1 j2 j3 hb0 hR hBB
    go_wp2_with fail
    exact bodyPost_ret (v := .agg #[.slice (some ⟨w1.heap.size, 0, none⟩) m m, .slice (some ⟨w1.heap.size + 1, 0, none⟩) m m, .slice none 0 0, .int .i64 0]) (by simp [results, Try.results35, go_sem, m0, m1, m2, m3]) rfl ⟨_, rfl, HR.out, HBB.out⟩
  · have HF := Lib.hid (new_f2 T0.out B1.out hgw (Nat.le_trans hbw B1.out.size) hm)
    generalize ((((((w1.setCell ⟨g0, 0, none⟩ (.slice (some ⟨w1.heap.size + 1, 0, none⟩) m m)).setCell ⟨g0, 1, none⟩ (.slice (some ⟨w1.heap.size, 0, none⟩) m m)).setCell ⟨g0, 2, none⟩ (.slice none 0 0)).setCell ⟨g0, 3, none⟩ (.int .i64 0)).alloc (.cells (madeCells #[.bool false] m) 4)).alloc (.cells (madeCells #[.int .i64 0] m) 3)).drew = W at HF ⊢
    obtain ⟨hb0, hR, hBB⟩ := HF.out
    obtain ⟨m0, m1, m2, m3⟩ := four_of hb0
    have HR := Lib.hid hR
    have HBB := Lib.hid hBB
    clear j0 j1 j2 j3 hb0 hR hBB
    go_wp2_with fail
    exact bodyPost_ret (v := .agg #[.slice (some ⟨w1.heap.size + 1, 0, none⟩) m m, .slice (some ⟨w1.heap.size, 0, none⟩) m m, .slice none 0 0, .int .i64 0]) (by simp [results, Try.results35, go_sem, m0, m1, m2, m3]) rfl ⟨_, rfl, HR.out, HBB.out⟩

end Go.Proofs.Ytjcmbddiffebhaa
