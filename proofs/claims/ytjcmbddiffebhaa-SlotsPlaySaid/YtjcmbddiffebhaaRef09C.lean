/-
  kedgeref09: New, Give, Swap, Take, each said of the abstract state.
-/
import Derived.Test.YtjcmbddiffebhaaRef09B
namespace Go.Proofs.Ytjcmbddiffebhaa
open Go.RowKit

theorem ints_set (L : List Int) (j : Nat) (x : Int) : ints (L.set j x) = (ints L).set j (.int .i64 x) := by unfold ints; rw [List.map_set]
theorem bools_set (L : List Bool) (j : Nat) (x : Bool) : bools (L.set j x) = (bools L).set j (.bool x) := by unfold bools; rw [List.map_set]

/-! ### the plain law: what the lists are behind a change -/
theorem rV_ext {s s' : St} {k : Nat} {x : Int} (hm : s'.most = s.most) (h : ∀ j : Nat, j < s.most → s'.get j = if j = k then x else s.get j) : rV s' = (rV s).set k x := by
  refine List.ext_getElem? fun j => ?_
  unfold rV
  rw [hm, List.getElem?_set]
  by_cases hj : j < s.most
  · simp only [List.getElem?_map, List.getElem?_range hj, Option.map_some, h j hj]
    by_cases e : j = k
    · subst e; simp [hj]
    · have e' : ¬ k = j := fun h => e h.symm
      simp [e, e']
  · simp [hj]
    omega
theorem rI_ext {s s' : St} {k : Nat} {x : Bool} (hm : s'.most = s.most) (h : ∀ j : Nat, j < s.most → s'.has j = if j = k then x else s.has j) : rI s' = (rI s).set k x := by
  refine List.ext_getElem? fun j => ?_
  unfold rI
  rw [hm, List.getElem?_set]
  by_cases hj : j < s.most
  · simp only [List.getElem?_map, List.getElem?_range hj, Option.map_some, h j hj]
    by_cases e : j = k
    · subst e; simp [hj]
    · have e' : ¬ k = j := fun h => e h.symm
      simp [e, e']
  · simp [hj]
    omega

theorem give_lists {s : St} {k : Nat} (hh : s.has k = true) : rV (s.give k) = (rV s).set k 0 ∧ rI (s.give k) = (rI s).set k false ∧ rK (s.give k) = rK s ++ [(k : Int)] ∧ (s.give k).T.length = s.T.length := by
  obtain ⟨h1, h2⟩ := St.give_at hh
  have hg : s.give k = ⟨s.T.set k none, k :: s.B, s.most⟩ := by unfold St.give; rw [if_pos hh, show ((k : Nat) : Int).toNat = k by omega]
  refine ⟨rV_ext (St.give_most _) fun j hj => ?_, rI_ext (St.give_most _) fun j hj => ?_, ?_, ?_⟩
  · by_cases e : j = k
    · subst e; rw [if_pos rfl]; exact get_no h1
    · rw [if_neg e]; exact (h2 j e).2
  · by_cases e : j = k
    · subst e; rw [if_pos rfl]; exact h1
    · rw [if_neg e]; exact (h2 j e).1
  · rw [hg]; simp [rK]
  · rw [hg]; simp

theorem swap_lists {s : St} {k : Nat} (hh : s.has k = true) (x : Int) : rV (s.swap k x) = (rV s).set k x ∧ rI (s.swap k x) = rI s ∧ rK (s.swap k x) = rK s ∧ (s.swap k x).T.length = s.T.length := by
  obtain ⟨h1, h2⟩ := St.swap_at hh x
  have hlt := (St.has_lt hh).2.1
  rw [show ((k : Nat) : Int).toNat = k by omega] at hlt
  have hg : s.swap k x = ⟨s.T.set k (some x), s.B, s.most⟩ := by unfold St.swap; rw [if_pos hh, show ((k : Nat) : Int).toNat = k by omega]
  have h3 : ∀ j : Nat, j ≠ k → (s.swap k x).has j = s.has j ∧ (s.swap k x).get j = s.get j := fun j hj => by rw [hg]; exact St.has_set hlt hj _
  refine ⟨rV_ext (St.swap_most _ _) fun j hj => ?_, ?_, ?_, ?_⟩
  · by_cases e : j = k
    · subst e; rw [if_pos rfl]; exact h2
    · rw [if_neg e]; exact (h3 j e).2
  · unfold rI
    rw [St.swap_most]
    refine List.map_congr_left fun j hj => ?_
    by_cases e : j = k
    · subst e; rw [h1, hh]
    · exact (h3 j e).1
  · rw [hg]; rfl
  · rw [hg]; simp

theorem take_lists {s : St} (ok : s.Ok) (hf : s.full = false) (x : Int) : rV (s.take x) = (rV s).set s.spot x ∧ rI (s.take x) = (rI s).set s.spot true := by
  obtain ⟨h0, _, h1, h2, h3⟩ := ok.take_at hf x
  refine ⟨rV_ext (St.take_most _) fun j hj => ?_, rI_ext (St.take_most _) fun j hj => ?_⟩
  · by_cases e : j = s.spot
    · subst e; rw [if_pos rfl]; exact h2
    · rw [if_neg e]; exact (h3 j e).2
  · by_cases e : j = s.spot
    · subst e; rw [if_pos rfl]; exact h1
    · rw [if_neg e]; exact (h3 j e).1

/-- the three ways of a take -/
theorem take_ways {s : St} (ok : s.Ok) (x : Int) :
    (s.B = [] ∧ s.most ≤ s.T.length ∧ s.full = true ∧ s.take x = s) ∨
    (s.B = [] ∧ s.T.length < s.most ∧ s.full = false ∧ s.spot = s.T.length ∧ rK s = [] ∧ rK (s.take x) = [] ∧ (s.take x).T.length = s.T.length + 1) ∨
    (∃ k r, s.B = k :: r ∧ s.full = false ∧ s.spot = k ∧ rK s = rK (s.take x) ++ [(k : Int)] ∧ (s.take x).T.length = s.T.length) := by
  have hle := ok.le
  cases hB : s.B with
  | nil =>
    have hl : s.len = s.T.length := by simp [St.len, hB]
    by_cases h : s.most ≤ s.T.length
    · have hf : s.full = true := by simp [St.full, hl, h]
      exact .inl ⟨rfl, h, hf, by simp [St.take, hf]⟩
    · have hf : s.full = false := by simp [St.full, hl]; omega
      refine .inr (.inl ⟨rfl, by omega, hf, by simp [St.spot, hB], by simp [rK, hB], ?_, ?_⟩)
      · simp [St.take, hf, hB, rK]
      · simp [St.take, hf, hB]
  | cons k r =>
    have hbl := St.Ok.blen ok
    rw [hB] at hbl
    simp at hbl
    have hf : s.full = false := by simp [St.full, St.len, hB]; omega
    refine .inr (.inr ⟨k, r, rfl, hf, by simp [St.spot, hB], ?_, ?_⟩)
    · simp [St.take, hf, hB, rK]
    · simp [St.take, hf, hB]

/-! ### the walks -/
def RefG (w : World) (b : Nat) (s : St) (r : Bool) (e : Ending) (w' : World) : Prop :=
  ∃ v, e = .returned (.tuple #[v, .bool r]) ∧ Ref9 w' b s v ∧ Below w.heap.size w w'

theorem swap_no9 {s : St} {i : Int} (hh : s.has i = false) (x : Int) : s.swap i x = s := by simp [St.swap, hh]
theorem give_no9 {s : St} {i : Int} (hh : s.has i = false) : s.give i = s := by simp [St.give, hh]

theorem two_blocks9 (w : World) (o1 o2 : Obj) : ((w.alloc o1).alloc o2).heap[w.heap.size]? = some o1 ∧ ((w.alloc o1).alloc o2).heap[w.heap.size + 1]? = some o2 ∧
    Below w.heap.size w ((w.alloc o1).alloc o2) ∧ ((w.alloc o1).alloc o2).heap.size = w.heap.size + 2 := by
  have s1 : (w.alloc o1).heap.size = w.heap.size + 1 := by simp
  refine ⟨?_, ?_, ((Below.refl _ _).alloc (Nat.le_refl _) _).alloc (by simp) _, by simp⟩
  · rw [Below.heap_alloc _ _ _ (by omega)]; exact heap_alloc_new w o1
  · rw [← s1]; exact heap_alloc_new _ o2

theorem only_one9 (w : World) (g k : Nat) (v : Value) : Only (fun j : Nat => j = g) w (w.setCell ⟨g, k, none⟩ v) :=
  (Only.refl (fun j : Nat => j = g) w).setCell (p := ⟨g, k, none⟩) (.inl rfl) v

/-- three lists, the first and the last apart -/
def L3 (w : World) (b : Nat) (vV vI vK : Value) (V : List Int) (I : List Bool) (K : List Int) : Prop :=
  HasE w b vV V ∧ HasB w b vI I ∧ HasE w b vK K ∧ Ap vV vK

namespace L3
variable {w w' : World} {b : Nat} {vV vI vK : Value} {V : List Int} {I : List Bool} {K : List Int}
theorem below (h : L3 w b vV vI vK V I K) (hb : Below w.heap.size w w') : L3 w' b vV vI vK V I K := ⟨h.1.below hb, h.2.1.below hb, h.2.2.1.below hb, h.2.2.2⟩
theorem alloc (h : L3 w b vV vI vK V I K) (o : Obj) : L3 (w.alloc o) b vV vI vK V I K := h.below ((Below.refl _ _).alloc (Nat.le_refl _) o)
theorem drewN (h : L3 w b vV vI vK V I K) (q : Nat) : L3 (w.drewN q) b vV vI vK V I K := h
theorem setV {gV n c : Nat} (h : L3 w b (.slice (some ⟨gV, 0, none⟩) n c) vI vK V I K) (k : Nat) (x : Int) (hk : k < V.length) :
    L3 (w.setCell ⟨gV, k, none⟩ (.int .i64 x)) b (.slice (some ⟨gV, 0, none⟩) n c) vI vK (V.set k x) I K := by
  obtain ⟨h1, h2, h3, h4⟩ := h
  have hl : 0 < (ints V).length := by rw [ints_length]; omega
  refine ⟨?_, h2.other (Lst.ne_type h1 hl h2 (by decide)) _ _, h3.other ?_ _ _, ?_⟩
  · show Lst _ _ _ _ (ints (V.set k x))
    rw [ints_set]
    exact Lst.set h1 k _ (by rw [ints_length]; exact hk)
  · rcases h4 with ⟨g, h4⟩ | h4 | h4
    · have := h1.len_of h4; omega
    · exact .inl (h3.nil_of h4)
    · exact .inr (h4 gV rfl)
  · exact h4
theorem setI {gI n c : Nat} (h : L3 w b vV (.slice (some ⟨gI, 0, none⟩) n c) vK V I K) (k : Nat) (x : Bool) (hk : k < I.length) :
    L3 (w.setCell ⟨gI, k, none⟩ (.bool x)) b vV (.slice (some ⟨gI, 0, none⟩) n c) vK V (I.set k x) K := by
  obtain ⟨h1, h2, h3, h4⟩ := h
  have hl : 0 < (bools I).length := by rw [bools_length]; omega
  refine ⟨h1.other (Lst.ne_type h2 hl h1 (by decide)) _ _, ?_, h3.other (Lst.ne_type h2 hl h3 (by decide)) _ _, h4⟩
  show Lst _ _ _ _ (bools (I.set k x))
  rw [bools_set]
  exact Lst.set h2 k _ (by rw [bools_length]; exact hk)
theorem four {g : Nat} {x y z t a a' c d : Value} (h : L3 w b vV vI vK V I K) (hg : w.heap[g]? = some (.cells #[x, y, z, t] 60 (0, 0))) :
    L3 ((((w.setCell ⟨g, 0, none⟩ a).setCell ⟨g, 1, none⟩ a').setCell ⟨g, 2, none⟩ c).setCell ⟨g, 3, none⟩ d) b vV vI vK V I K :=
  ⟨lst_four hg h.1 (by decide), lst_four hg h.2.1 (by decide), lst_four hg h.2.2.1 (by decide), h.2.2.2⟩
theorem ref {s : St} {f : Nat} (h : L3 w b vV vI vK V I K) (e1 : rV s = V) (e2 : rI s = I) (e3 : rK s = K) (e4 : s.T.length = f) : Ref9 w b s (.agg #[vV, vI, vK, .int .i64 (f : Nat)]) := by
  subst e1; subst e2; subst e3; subst e4
  exact ⟨vV, vI, vK, rfl, h.1, h.2.1, h.2.2.1⟩
theorem mono {b' : Nat} (h : L3 w b vV vI vK V I K) (hb : b' ≤ b) : L3 w b' vV vI vK V I K := ⟨h.1.mono hb, h.2.1.mono hb, h.2.2.1.mono hb, h.2.2.2⟩
theorem frV {gV n c : Nat} (h : L3 w b (.slice (some ⟨gV, 0, none⟩) n c) vI vK V I K) (hk : 0 < V.length) (j : Nat) : w.frozen? ⟨gV, j, none⟩ = false := by
  obtain ⟨g, c', hv, ho, _⟩ := Lst.real h.1 0 (by rw [ints_length]; exact hk)
  injection hv with e1 e2 e3
  subst e2
  exact World.ownsRow.frozenAt ho j
theorem frI {gI n c : Nat} (h : L3 w b vV (.slice (some ⟨gI, 0, none⟩) n c) vK V I K) (hk : 0 < I.length) (j : Nat) : w.frozen? ⟨gI, j, none⟩ = false := by
  obtain ⟨g, c', hv, ho, _⟩ := Lst.real h.2.1 0 (by rw [bools_length]; exact hk)
  injection hv with e1 e2 e3
  subst e2
  exact World.ownsRow.frozenAt ho j
end L3

set_option maxHeartbeats 4000000 in
theorem refswap9_no {w : World} {b : Nat} {s : St} {r : Value} (h : Ref9 w b s r) (ok : s.Ok) (i x : Int) (hh : s.has i = false) :
    Calls Try.prog 39 #[r, .int .i64 i, .int .i64 x] w (RefG w b s false) := by
  have h' := h
  obtain ⟨vV, vI, vK, rfl, hV, hI, hK⟩ := h
  obtain ⟨AV, cV, rfl⟩ := hV.shape
  obtain ⟨AI, cI, rfl⟩ := hI.shape
  obtain ⟨AK, cK, rfl⟩ := hK.shape
  rw [rV_len, rI_len, rK_len] at *
  have hcap := ok.cap
  obtain ⟨t0, t1, hb, _⟩ := two_blocks9 w (.cells #[.slice AV s.most cV, .slice AI s.most cI, .slice AK s.B.length cK, .int .i64 (s.T.length : Nat)] 60) (.cells #[.slice none 0 0, .slice none 0 0, .slice none 0 0, .int .i64 0] 60)
  have HB := Lib.hid hb
  have R := Lib.hid (h'.below hb)
  have OK := Lib.hid ok
  have T0 := Lib.hid t0
  have T1 := Lib.hid t1
  have HH := Lib.hid hh
  clear hb hV hI hK h' ok t0 t1 hh
  go_enter Try.func39, Try.ntmps39
  go_wp2_with fail
  with_reducible refine (refhas9 R.out OK.out i).mono ?_
  rintro e w2 ⟨rfl, b2⟩
  rw [HH.out]
  have R2 := Lib.hid (R.out.below b2)
  have B2 := Lib.hid (HB.out.trans (b2.mono HB.out.size))
  have T0 := Lib.hid ((b2.block _ (lt_of_block T0.out)).trans T0.out)
  have T1 := Lib.hid ((b2.block _ (lt_of_block T1.out)).trans T1.out)
  obtain ⟨k0, k1, k2, k3⟩ := four_of T0.out
  obtain ⟨j0, j1, j2, j3⟩ := four_of T1.out
  have z0' := four_fz T1.out 0
  have z1' := four_fz T1.out 1
  have z2' := four_fz T1.out 2
  have z3' := four_fz T1.out 3
  obtain ⟨g0, hg0⟩ : ∃ g0, g0 = w.heap.size := ⟨_, rfl⟩
  rw [← hg0] at T0 T1 k0 k1 k2 k3 j0 j1 j2 j3 z0' z1' z2' z3' ⊢
  have hgw : w.heap.size ≤ g0 + 1 := by omega
  have hg0' : w.heap.size ≤ g0 := by omega
  have hl1 : g0 + 1 < w2.heap.size := lt_of_block T1.out
  clear b2 hg0
  go_wp2_with fail
  refine bodyPost_ret (v := .tuple #[.agg #[.slice AV s.most cV, .slice AI s.most cI, .slice AK s.B.length cK, .int .i64 (s.T.length : Nat)], .bool false]) (by simp [results, Try.results39, go_sem, j0, j1, j2, j3]) rfl ⟨_, rfl, ?_, ?_⟩
  · obtain ⟨_, _, _, e, l1, l2, l3⟩ := R2.out
    exact ⟨_, _, _, e, lst_four T1.out l1 (by decide), lst_four T1.out l2 (by decide), lst_four T1.out l3 (by decide)⟩
  · exact below_four B2.out hgw _ _ _ _

set_option maxHeartbeats 4000000 in
theorem refgive9_no {w : World} {b : Nat} {s : St} {r : Value} (h : Ref9 w b s r) (ok : s.Ok) (i : Int) (hh : s.has i = false) :
    Calls Try.prog 37 #[r, .int .i64 i] w (RefG w b s false) := by
  have h' := h
  obtain ⟨vV, vI, vK, rfl, hV, hI, hK⟩ := h
  obtain ⟨AV, cV, rfl⟩ := hV.shape
  obtain ⟨AI, cI, rfl⟩ := hI.shape
  obtain ⟨AK, cK, rfl⟩ := hK.shape
  rw [rV_len, rI_len, rK_len] at *
  have hcap := ok.cap
  obtain ⟨t0, t1, hb, _⟩ := two_blocks9 w (.cells #[.slice AV s.most cV, .slice AI s.most cI, .slice AK s.B.length cK, .int .i64 (s.T.length : Nat)] 60) (.cells #[.slice none 0 0, .slice none 0 0, .slice none 0 0, .int .i64 0] 60)
  have HB := Lib.hid hb
  have R := Lib.hid (h'.below hb)
  have OK := Lib.hid ok
  have T0 := Lib.hid t0
  have T1 := Lib.hid t1
  have HH := Lib.hid hh
  clear hb hV hI hK h' ok t0 t1 hh
  go_enter Try.func37, Try.ntmps37
  go_wp2_with fail
  with_reducible refine (refhas9 R.out OK.out i).mono ?_
  rintro e w2 ⟨rfl, b2⟩
  rw [HH.out]
  have R2 := Lib.hid (R.out.below b2)
  have B2 := Lib.hid (HB.out.trans (b2.mono HB.out.size))
  have T0 := Lib.hid ((b2.block _ (lt_of_block T0.out)).trans T0.out)
  have T1 := Lib.hid ((b2.block _ (lt_of_block T1.out)).trans T1.out)
  obtain ⟨k0, k1, k2, k3⟩ := four_of T0.out
  obtain ⟨j0, j1, j2, j3⟩ := four_of T1.out
  have z0' := four_fz T1.out 0
  have z1' := four_fz T1.out 1
  have z2' := four_fz T1.out 2
  have z3' := four_fz T1.out 3
  obtain ⟨g0, hg0⟩ : ∃ g0, g0 = w.heap.size := ⟨_, rfl⟩
  rw [← hg0] at T0 T1 k0 k1 k2 k3 j0 j1 j2 j3 z0' z1' z2' z3' ⊢
  have hgw : w.heap.size ≤ g0 + 1 := by omega
  have hg0' : w.heap.size ≤ g0 := by omega
  have hl1 : g0 + 1 < w2.heap.size := lt_of_block T1.out
  clear b2 hg0
  go_wp2_with fail
  refine bodyPost_ret (v := .tuple #[.agg #[.slice AV s.most cV, .slice AI s.most cI, .slice AK s.B.length cK, .int .i64 (s.T.length : Nat)], .bool false]) (by simp [results, Try.results37, go_sem, j0, j1, j2, j3]) rfl ⟨_, rfl, ?_, ?_⟩
  · obtain ⟨_, _, _, e, l1, l2, l3⟩ := R2.out
    exact ⟨_, _, _, e, lst_four T1.out l1 (by decide), lst_four T1.out l2 (by decide), lst_four T1.out l3 (by decide)⟩
  · exact below_four B2.out hgw _ _ _ _

set_option maxHeartbeats 4000000 in
theorem refswap9_yes {w : World} {b : Nat} {s : St} {r : Value} (h : Ref9 w b s r) (ok : s.Ok) (hbw : b ≤ w.heap.size) (k : Nat) (x : Int) (hh : s.has k = true) :
    Calls Try.prog 39 #[r, .int .i64 k, .int .i64 x] w (RefG w b (s.swap k x) true) := by
  have h' := h
  obtain ⟨vV, vI, vK, rfl, hV, hI, hK⟩ := h
  obtain ⟨AV, cV, rfl⟩ := hV.shape
  obtain ⟨AI, cI, rfl⟩ := hI.shape
  obtain ⟨AK, cK, rfl⟩ := hK.shape
  rw [rV_len, rI_len, rK_len] at *
  have hcap := ok.cap
  obtain ⟨t0, t1, hb, _⟩ := two_blocks9 w (.cells #[.slice AV s.most cV, .slice AI s.most cI, .slice AK s.B.length cK, .int .i64 (s.T.length : Nat)] 60) (.cells #[.slice none 0 0, .slice none 0 0, .slice none 0 0, .int .i64 0] 60)
  have HB := Lib.hid hb
  have R := Lib.hid (h'.below hb)
  have OK := Lib.hid ok
  have T0 := Lib.hid t0
  have T1 := Lib.hid t1
  have HH := Lib.hid hh
  clear hb hV hI hK h' ok t0 t1 hh
  go_enter Try.func39, Try.ntmps39
  go_wp2_with fail
  with_reducible refine (refhas9 R.out OK.out k).mono ?_
  rintro e w2 ⟨rfl, b2⟩
  rw [HH.out]
  have R2 := Lib.hid (R.out.below b2)
  have B2 := Lib.hid (HB.out.trans (b2.mono HB.out.size))
  have T0 := Lib.hid ((b2.block _ (lt_of_block T0.out)).trans T0.out)
  have T1 := Lib.hid ((b2.block _ (lt_of_block T1.out)).trans T1.out)
  obtain ⟨k0, k1, k2, k3⟩ := four_of T0.out
  obtain ⟨j0, j1, j2, j3⟩ := four_of T1.out
  have z0' := four_fz T1.out 0
  have z1' := four_fz T1.out 1
  have z2' := four_fz T1.out 2
  have z3' := four_fz T1.out 3
  obtain ⟨g0, hg0⟩ : ∃ g0, g0 = w.heap.size := ⟨_, rfl⟩
  rw [← hg0] at T0 T1 k0 k1 k2 k3 j0 j1 j2 j3 z0' z1' z2' z3' ⊢
  have hgw : w.heap.size ≤ g0 + 1 := by omega
  have hg0' : w.heap.size ≤ g0 := by omega
  have hl1 : g0 + 1 < w2.heap.size := lt_of_block T1.out
  clear b2 hg0
  go_wp2_with fail
  with_reducible refine (refown9 R2.out OK.out).mono ?_
  rintro e w3 ⟨uV, uI, uK, rfl, hV3, hI3, hK3, ap3, b3⟩
  have hkm : k < s.most := by have := (St.has_lt HH.out).2.1; have := OK.out.le; omega
  obtain ⟨gV, dV, rfl, _, gv1, gv2⟩ := hV3.real k (by rw [ints_length, rV_len]; exact hkm)
  obtain ⟨gI, dI, rfl, _, gi1, gi2⟩ := hI3.real k (by rw [bools_length, rI_len]; exact hkm)
  obtain ⟨AW, dW, rfl⟩ := hK3.shape' (rK_len s)
  rw [ints_length, rV_len] at hV3 ap3
  rw [bools_length, rI_len] at hI3
  rw [ints_length, bools_length, rV_len, rI_len]
  have V3 := Lib.hid hV3
  have I3 := Lib.hid hI3
  have K3 := Lib.hid hK3
  have P3 := Lib.hid ap3
  have B3 := Lib.hid (B2.out.trans (b3.mono B2.out.size))
  have T1 := Lib.hid ((b3.block _ (lt_of_block T1.out)).trans T1.out)
  obtain ⟨j0, j1, j2, j3⟩ := four_of T1.out
  have z0' := four_fz T1.out 0
  have z1' := four_fz T1.out 1
  have z2' := four_fz T1.out 2
  have z3' := four_fz T1.out 3
  have g1 : (0 : Int) ≤ (k : Int) := by omega
  have g2 : (k : Int) < (s.most : Int) := by omega
  have hc := hV3.cellAt rfl k (by rw [rV_len]; exact hkm)
  obtain ⟨_, hgx, _, hc⟩ := hc
  injection hgx with hgx
  injection hgx with hgx
  subst hgx
  have LL := Lib.hid (show L3 w3 w2.heap.size (.slice (some ⟨gV, 0, none⟩) s.most dV) (.slice (some ⟨gI, 0, none⟩) s.most dI) (.slice AW s.B.length dW) (rV s) (rI s) (rK s) from ⟨hV3, hI3, hK3, ap3⟩)
  have hf := LL.out.frV (by rw [rV_len]; omega) k
  have n1 := Nat.ne_of_lt gv2
  have n2 := n1.symm
  have n3 : gV ≠ g0 + 1 := by omega
  have n4 := n3.symm
  have n5 : g0 + 1 ≠ w3.heap.size := by omega
  have n6 := n5.symm
  have hl3 := b3.size
  have hgw3 : w.heap.size ≤ gV := by have := B2.out.size; omega
  have hbase : b ≤ w2.heap.size := by have := B2.out.size; omega
  clear hV3 hI3 hK3 ap3 b3
  go_upto_region 5 with fail
  obtain ⟨o, ho⟩ : ∃ o, o = Obj.cells #[.slice (some ⟨gV, 0, none⟩) s.most dV, .slice (some ⟨gI, 0, none⟩) s.most dI, .slice AW s.B.length dW, .int .i64 (s.T.length : Nat)] 60 := ⟨_, rfl⟩
  have OO := only_one9 w3 gV k (.int .i64 x)
  have TS := (OO.block (g0 + 1) (lt_of_block T1.out) n4).trans T1.out
  have hA := (Below.refl _ (w3.setCell ⟨gV, k, none⟩ (.int .i64 x))).alloc (Nat.le_refl _) o
  have TA := Lib.hid ((hA.block _ (lt_of_block TS)).trans TS)
  have TG := Lib.hid (show ((w3.setCell ⟨gV, k, none⟩ (.int .i64 x)).alloc o).heap[w3.heap.size]? = some o by have := heap_alloc_new (w3.setCell ⟨gV, k, none⟩ (.int .i64 x)) o; simpa using this)
  have LF := Lib.hid ((LL.out.setV k x (by rw [rV_len]; exact hkm)).alloc o)
  have BF := Lib.hid ((B3.out.setCell (p := ⟨gV, k, none⟩) hgw3 (.int .i64 x)).alloc (by have := B3.out.size; simpa using this) o)
  rw [← ho]
  clear hA TS OO j0 j1 j2 j3 z0' z1' z2' z3' hc hf n1 n2 n3 n4
  generalize ((w3.setCell ⟨gV, k, none⟩ (.int .i64 x)).alloc o) = W4 at TA TG LF BF ⊢
  rw [ho] at TG
  clear ho
  obtain ⟨g2', hg2⟩ : ∃ g, g = w3.heap.size := ⟨_, rfl⟩
  rw [← hg2] at TG n5 n6 ⊢
  clear hg2 gv2 gi2 hl3
  obtain ⟨j0, j1, j2, j3⟩ := four_of TA.out
  obtain ⟨i0, i1, i2, i3⟩ := four_of TG.out
  have z0' := four_fz TA.out 0
  have z1' := four_fz TA.out 1
  have z2' := four_fz TA.out 2
  have z3' := four_fz TA.out 3
  go_wp2_with fail
  obtain ⟨e1, e2, e3, e4⟩ := swap_lists HH.out x
  refine bodyPost_ret (v := .tuple #[.agg #[.slice (some ⟨gV, 0, none⟩) s.most dV, .slice (some ⟨gI, 0, none⟩) s.most dI, .slice AW s.B.length dW, .int .i64 (s.T.length : Nat)], .bool true]) (by simp [results, Try.results39, go_sem, j0, j1, j2, j3]) rfl ⟨_, rfl, ?_, ?_⟩
  · exact ((LF.out.four TA.out).mono hbase).ref e1 e2 e3 e4
  · exact below_four BF.out hgw _ _ _ _


theorem L3.box {w : World} {b : Nat} {vV vI vK : Value} {V : List Int} {I : List Bool} {K : List Int} {g : Nat} {cs : Array Value} (h : L3 w b vV vI vK V I K) (hg : w.heap[g]? = some (.cells cs 60 (0, 0))) (j : Nat) (y : Value) :
    L3 (w.setCell ⟨g, j, none⟩ y) b vV vI vK V I K :=
  ⟨h.1.other (h.1.ne_block hg (by decide)) j y, h.2.1.other (h.2.1.ne_block hg (by decide)) j y, h.2.2.1.other (h.2.2.1.ne_block hg (by decide)) j y, h.2.2.2⟩

theorem set_at3 {w : World} {g : Nat} {x y z t d : Value} {e : TypeId} (h : w.heap[g]? = some (.cells #[x, y, z, t] e (0, 0))) :
    (w.setCell ⟨g, 3, none⟩ d).heap[g]? = some (.cells #[x, y, z, d] e (0, 0)) := by simp [World.setCell, Array.getElem?_modify, h]
theorem set_at2 {w : World} {g : Nat} {x y z t d : Value} {e : TypeId} (h : w.heap[g]? = some (.cells #[x, y, z, t] e (0, 0))) :
    (w.setCell ⟨g, 2, none⟩ d).heap[g]? = some (.cells #[x, y, d, t] e (0, 0)) := by simp [World.setCell, Array.getElem?_modify, h]

/-- what a take hands back -/
def RefT (w : World) (b : Nat) (s' : St) (i : Nat) (r : Bool) (e : Ending) (w' : World) : Prop :=
  ∃ v, e = .returned (.tuple #[v, .int .i64 (i : Nat), .bool r]) ∧ Ref9 w' b s' v ∧ Below w.heap.size w w'

set_option maxHeartbeats 4000000 in
theorem reftake9_full {w : World} {b : Nat} {s : St} {r : Value} (h : Ref9 w b s r) (ok : s.Ok) (x : Int) (hB : s.B = []) (hm : s.most ≤ s.T.length) :
    Calls Try.prog 36 #[r, .int .i64 x] w (RefT w b s 0 false) := by
  have h' := h
  obtain ⟨vV, vI, vK, rfl, hV, hI, hK⟩ := h
  obtain ⟨AV, cV, rfl⟩ := hV.shape
  obtain ⟨AI, cI, rfl⟩ := hI.shape
  have hBl : (rK s).length = 0 := by rw [rK_len, hB]; rfl
  obtain ⟨AK, cK, rfl⟩ := hK.shape' hBl
  have HBL := Lib.hid hBl
  clear hBl
  rw [rV_len, rI_len] at *
  have hcap := ok.cap
  have hle := ok.le
  obtain ⟨t0, t1, hb, _⟩ := two_blocks9 w (.cells #[.slice AV s.most cV, .slice AI s.most cI, .slice AK 0 cK, .int .i64 (s.T.length : Nat)] 60) (.cells #[.slice none 0 0, .slice none 0 0, .slice none 0 0, .int .i64 0] 60)
  have HB := Lib.hid hb
  have R := Lib.hid (h'.below hb)
  have OK := Lib.hid ok
  have T0 := Lib.hid t0
  have T1 := Lib.hid t1
  have HBN := Lib.hid hB
  clear hb hV hI hK h' ok t0 t1 hB
  go_enter Try.func36, Try.ntmps36
  go_wp2_with fail
  obtain ⟨w2, hw2⟩ : ∃ w2, w2 = (w.alloc (.cells #[.slice AV s.most cV, .slice AI s.most cI, .slice AK 0 cK, .int .i64 (s.T.length : Nat)] 60)).alloc (.cells #[.slice none 0 0, .slice none 0 0, .slice none 0 0, .int .i64 0] 60) := ⟨_, rfl⟩
  obtain ⟨g0, hg0⟩ : ∃ g0, g0 = w.heap.size := ⟨_, rfl⟩
  rw [← hw2] at HB R T0 T1 ⊢
  rw [← hg0] at T0 T1 ⊢
  have hgw : w.heap.size ≤ g0 + 1 := by omega
  clear hw2 hg0
  with_reducible refine (refown9 R.out OK.out).mono ?_
  rintro e w3 ⟨uV, uI, uK, rfl, hV3, hI3, hK3, ap3, b3⟩
  obtain ⟨AX, dX, rfl⟩ := hV3.shape' (rV_len s)
  obtain ⟨AY, dY, rfl⟩ := hI3.shape' (rI_len s)
  obtain ⟨AW, dW, rfl⟩ := hK3.shape' HBL.out
  have B3 := Lib.hid (HB.out.trans (b3.mono HB.out.size))
  have R3 := Lib.hid (R.out.below b3)
  have T0 := Lib.hid ((b3.block _ (lt_of_block T0.out)).trans T0.out)
  have T1 := Lib.hid ((b3.block _ (lt_of_block T1.out)).trans T1.out)
  clear hV3 hI3 hK3 ap3 b3
  go_upto_region 2 with fail
  obtain ⟨o, ho⟩ : ∃ o, o = Obj.cells #[.slice AX s.most dX, .slice AY s.most dY, .slice AW 0 dW, .int .i64 (s.T.length : Nat)] 60 := ⟨_, rfl⟩
  have hA := (Below.refl _ w3).alloc (Nat.le_refl _) o
  have TG := Lib.hid (heap_alloc_new w3 o)
  have T0 := Lib.hid ((hA.block _ (lt_of_block T0.out)).trans T0.out)
  have T1 := Lib.hid ((hA.block _ (lt_of_block T1.out)).trans T1.out)
  have R4 := Lib.hid (R3.out.below hA)
  have B4 := Lib.hid (B3.out.trans (hA.mono B3.out.size))
  rw [← ho]
  clear hA
  generalize (w3.alloc o) = W3 at TG T0 T1 R4 B4 ⊢
  rw [ho] at TG
  clear ho
  obtain ⟨g2', hg2⟩ : ∃ g, g = w3.heap.size := ⟨_, rfl⟩
  rw [← hg2] at TG ⊢
  clear hg2
  obtain ⟨j0, j1, j2, j3⟩ := four_of T1.out
  obtain ⟨k0, k1, k2, k3⟩ := four_of T0.out
  have i2 := (four_of TG.out).2.2.1
  have i0 := (four_of TG.out).1
  have i3 := (four_of TG.out).2.2.2
  have z0' := four_fz T1.out 0
  have z1' := four_fz T1.out 1
  have z2' := four_fz T1.out 2
  have z3' := four_fz T1.out 3
  have d2 : decide ((s.most : Int) ≤ (s.T.length : Int)) = true := by simp; omega
  go_wp2_with fail
  refine bodyPost_ret (v := .tuple #[.agg #[.slice AV s.most cV, .slice AI s.most cI, .slice AK 0 cK, .int .i64 (s.T.length : Nat)], .int .i64 0, .bool false]) (by simp [results, Try.results36, go_sem, j0, j1, j2, j3]) rfl ⟨_, rfl, ?_, ?_⟩
  · obtain ⟨_, _, _, e, l1, l2, l3⟩ := R4.out
    exact ⟨_, _, _, e, lst_four T1.out l1 (by decide), lst_four T1.out l2 (by decide), lst_four T1.out l3 (by decide)⟩
  · exact below_four B4.out hgw _ _ _ _

set_option maxHeartbeats 4000000 in
theorem reftake9_fresh {w : World} {b : Nat} {s : St} {r : Value} (h : Ref9 w b s r) (ok : s.Ok) (hbw : b ≤ w.heap.size) (x : Int) (hB : s.B = []) (hm : s.T.length < s.most) (hf : s.full = false) (hsp : s.spot = s.T.length) (hk2 : rK (s.take x) = []) (ht2 : (s.take x).T.length = s.T.length + 1) :
    Calls Try.prog 36 #[r, .int .i64 x] w (RefT w b (s.take x) s.T.length true) := by
  have HL := Lib.hid (take_lists ok hf x)
  have HS := Lib.hid hsp
  have HK2 := Lib.hid hk2
  have HT2 := Lib.hid ht2
  clear hf hsp hk2 ht2
  have h' := h
  obtain ⟨vV, vI, vK, rfl, hV, hI, hK⟩ := h
  obtain ⟨AV, cV, rfl⟩ := hV.shape
  obtain ⟨AI, cI, rfl⟩ := hI.shape
  have hBl : (rK s).length = 0 := by rw [rK_len, hB]; rfl
  obtain ⟨AK, cK, rfl⟩ := hK.shape' hBl
  have HBL := Lib.hid hBl
  clear hBl
  rw [rV_len, rI_len] at *
  have hcap := ok.cap
  have hle := ok.le
  obtain ⟨t0, t1, hb, _⟩ := two_blocks9 w (.cells #[.slice AV s.most cV, .slice AI s.most cI, .slice AK 0 cK, .int .i64 (s.T.length : Nat)] 60) (.cells #[.slice none 0 0, .slice none 0 0, .slice none 0 0, .int .i64 0] 60)
  have HB := Lib.hid hb
  have R := Lib.hid (h'.below hb)
  have OK := Lib.hid ok
  have T0 := Lib.hid t0
  have T1 := Lib.hid t1
  have HBN := Lib.hid hB
  clear hb hV hI hK h' ok t0 t1 hB
  go_enter Try.func36, Try.ntmps36
  go_wp2_with fail
  obtain ⟨w2, hw2⟩ : ∃ w2, w2 = (w.alloc (.cells #[.slice AV s.most cV, .slice AI s.most cI, .slice AK 0 cK, .int .i64 (s.T.length : Nat)] 60)).alloc (.cells #[.slice none 0 0, .slice none 0 0, .slice none 0 0, .int .i64 0] 60) := ⟨_, rfl⟩
  obtain ⟨g0, hg0⟩ : ∃ g0, g0 = w.heap.size := ⟨_, rfl⟩
  rw [← hw2] at HB R T0 T1 ⊢
  rw [← hg0] at T0 T1 ⊢
  have hgw : w.heap.size ≤ g0 + 1 := by omega
  clear hw2 hg0
  with_reducible refine (refown9 R.out OK.out).mono ?_
  rintro e w3 ⟨uV, uI, uK, rfl, hV3, hI3, hK3, ap3, b3⟩
  obtain ⟨gV, dV, rfl, _, gv1, gv2⟩ := hV3.real s.T.length (by rw [ints_length, rV_len]; exact hm)
  obtain ⟨gI, dI, rfl, _, gi1, gi2⟩ := hI3.real s.T.length (by rw [bools_length, rI_len]; exact hm)
  obtain ⟨AW, dW, rfl⟩ := hK3.shape' HBL.out
  rw [ints_length, rV_len] at hV3 ap3
  rw [bools_length, rI_len] at hI3
  rw [ints_length, bools_length, rV_len, rI_len]
  have hVI : gI ≠ gV := by
    rcases Lst.ne_type hV3 (by rw [ints_length, rV_len]; omega) hI3 (by decide) with h | h
    · have : (bools (rI s)).length = 0 := by rw [h]; rfl
      rw [bools_length, rI_len] at this; omega
    · intro e; subst e; exact h rfl
  have LL := Lib.hid (show L3 w3 w2.heap.size (.slice (some ⟨gV, 0, none⟩) s.most dV) (.slice (some ⟨gI, 0, none⟩) s.most dI) (.slice AW 0 dW) (rV s) (rI s) (rK s) from ⟨hV3, hI3, hK3, ap3⟩)
  have hl1 : g0 + 1 < w2.heap.size := lt_of_block T1.out
  have B3 := Lib.hid (HB.out.trans (b3.mono HB.out.size))
  have T1 := Lib.hid ((b3.block _ (lt_of_block T1.out)).trans T1.out)
  have hl3 := b3.size
  clear hV3 hI3 hK3 ap3 b3
  go_upto_region 2 with fail
  obtain ⟨o, ho⟩ : ∃ o, o = Obj.cells #[.slice (some ⟨gV, 0, none⟩) s.most dV, .slice (some ⟨gI, 0, none⟩) s.most dI, .slice AW 0 dW, .int .i64 (s.T.length : Nat)] 60 := ⟨_, rfl⟩
  have hA := (Below.refl _ w3).alloc (Nat.le_refl _) o
  have TG := Lib.hid (heap_alloc_new w3 o)
  have T1 := Lib.hid ((hA.block _ (lt_of_block T1.out)).trans T1.out)
  have L4 := Lib.hid (LL.out.below hA)
  have B4 := Lib.hid (B3.out.trans (hA.mono B3.out.size))
  rw [← ho]
  clear hA
  generalize (w3.alloc o) = W3 at TG T1 L4 B4 ⊢
  rw [ho] at TG
  clear ho
  obtain ⟨g2', hg2⟩ : ∃ g, g = w3.heap.size := ⟨_, rfl⟩
  rw [← hg2] at TG gv2 gi2 hl3 ⊢
  clear hg2
  have n1 : g2' ≠ gV := by omega
  have n2 : g2' ≠ gI := by omega
  have n3 : g0 + 1 ≠ gV := by omega
  have n4 : g0 + 1 ≠ gI := by omega
  have n5 : g0 + 1 ≠ g2' := by omega
  have n1' := n1.symm
  have n2' := n2.symm
  have n3' := n3.symm
  have n4' := n4.symm
  have n5' := n5.symm
  have hVI' := hVI.symm
  have hwV : w.heap.size ≤ gV := by omega
  have hwI : w.heap.size ≤ gI := by omega
  have hw2 : w.heap.size ≤ g2' := by omega
  have hbase : b ≤ w2.heap.size := by omega
  obtain ⟨i0, i1, i2, i3⟩ := four_of TG.out
  have y3 := four_fz TG.out 3
  obtain ⟨_, hgx, _, hcV⟩ := HasE.cellAt L4.out.1 rfl s.T.length (by rw [rV_len]; exact hm)
  injection hgx with hgx
  injection hgx with hgx
  subst hgx
  obtain ⟨_, hgx, _, hcI⟩ := HasB.cellAt L4.out.2.1 rfl s.T.length (by rw [rI_len]; exact hm)
  injection hgx with hgx
  injection hgx with hgx
  subst hgx
  have hfV := L4.out.frV (by rw [rV_len]; omega) s.T.length
  have hfI := L4.out.frI (by rw [rI_len]; omega) s.T.length
  have g1 : (0 : Int) ≤ (s.T.length : Int) := by omega
  have g2 : (s.T.length : Int) < (s.most : Int) := by omega
  have d2 : decide ((s.most : Int) ≤ (s.T.length : Int)) = false := by simp; omega
  go_upto_region 11 with fail
  have O1 := only_one9 W3 g2' 3 (.int .i64 ((s.T.length : Int) + 1))
  have TGa := set_at3 (d := .int .i64 ((s.T.length : Int) + 1)) TG.out
  have T1a := (O1.block _ (lt_of_block T1.out) n5).trans T1.out
  have L5 := L4.out.box TG.out 3 (.int .i64 ((s.T.length : Int) + 1))
  have B5 := B4.out.setCell (p := ⟨g2', 3, none⟩) hw2 (.int .i64 ((s.T.length : Int) + 1))
  have O2 := only_one9 (W3.setCell ⟨g2', 3, none⟩ (.int .i64 ((s.T.length : Int) + 1))) gV s.T.length (.int .i64 x)
  have TGb := (O2.block _ (lt_of_block TGa) n1).trans TGa
  have T1b := (O2.block _ (lt_of_block T1a) n3).trans T1a
  have L6 := L5.setV s.T.length x (by rw [rV_len]; exact hm)
  have B6 := B5.setCell (p := ⟨gV, s.T.length, none⟩) hwV (.int .i64 x)
  have O3 := only_one9 ((W3.setCell ⟨g2', 3, none⟩ (.int .i64 ((s.T.length : Int) + 1))).setCell ⟨gV, s.T.length, none⟩ (.int .i64 x)) gI s.T.length (.bool true)
  have TGc := Lib.hid ((O3.block _ (lt_of_block TGb) n2).trans TGb)
  have T1c := Lib.hid ((O3.block _ (lt_of_block T1b) n4).trans T1b)
  have L7 := Lib.hid (L6.setI s.T.length true (by rw [rI_len]; exact hm))
  have B7 := Lib.hid (B6.setCell (p := ⟨gI, s.T.length, none⟩) hwI (.bool true))
  clear O1 O2 O3 TGa T1a L5 B5 TGb T1b L6 B6 i0 i1 i2 i3 y3 hcV hcI hfV hfI
  generalize (((W3.setCell ⟨g2', 3, none⟩ (.int .i64 ((s.T.length : Int) + 1))).setCell ⟨gV, s.T.length, none⟩ (.int .i64 x)).setCell ⟨gI, s.T.length, none⟩ (.bool true)) = W5 at TGc T1c L7 B7 ⊢
  obtain ⟨i0, i1, i2, i3⟩ := four_of TGc.out
  obtain ⟨j0, j1, j2, j3⟩ := four_of T1c.out
  have z0' := four_fz T1c.out 0
  have z1' := four_fz T1c.out 1
  have z2' := four_fz T1c.out 2
  have z3' := four_fz T1c.out 3
  go_wp2_with fail
  have e1 := HL.out.1
  have e2 := HL.out.2
  rw [HS.out] at e1 e2
  refine bodyPost_ret (v := .tuple #[.agg #[.slice (some ⟨gV, 0, none⟩) s.most dV, .slice (some ⟨gI, 0, none⟩) s.most dI, .slice AW 0 dW, .int .i64 ((s.T.length : Int) + 1)], .int .i64 (s.T.length : Nat), .bool true]) (by simp [results, Try.results36, go_sem, j0, j1, j2, j3]) rfl ⟨_, rfl, ?_, ?_⟩
  · have hK : rK s = rK (s.take x) := by rw [HK2.out]; exact List.length_eq_zero_iff.1 HBL.out
    exact ((L7.out.four T1c.out).mono hbase).ref (f := s.T.length + 1) e1 e2 hK.symm HT2.out
  · exact below_four B7.out hgw _ _ _ _

theorem L3.cutK {w : World} {b : Nat} {vV vI : Value} {V : List Int} {I : List Bool} {K : List Int} {x : Int} {gK n c : Nat} (hn : n = K.length)
    (h : L3 w b vV vI (.slice (some ⟨gK, 0, none⟩) (n + 1) c) V I (K ++ [x])) : L3 w b vV vI (.slice (some ⟨gK, 0, none⟩) n c) V I K ∧ n ≤ c := by
  obtain ⟨h1, h2, h3, h4⟩ := h
  have hne : ints (K ++ [x]) ≠ [] := by simp [ints]
  rcases h3 with h3 | ⟨h3, _⟩
  · rcases h3 with ⟨ha, hb⟩
    rcases hb with ⟨hb, _⟩ | ⟨g, cap, cur, hv, hb, hh, q1, q2, q3, q4⟩
    · cases hb
    · injection hv with e1 e2 e3
      injection e1 with e1
      injection e1 with e1
      subst e1
      subst e3
      have hl : (ints (K ++ [x])).length = n + 1 := by rw [ints_length]; simp [hn]
      rw [hl] at q1 q4
      refine ⟨⟨h1, h2, .inl ⟨by simp, .inr ⟨gK, c, cur, ?_, hb, hh, by rw [ints_length]; omega, q2, q3, ?_⟩⟩, ?_⟩, by omega⟩
      · rw [ints_length, hn]
      · rw [ints_length, ← hn]
        have : (cur.toList.take ((n + 1) * 1)).take (n * 1) = (ints (K ++ [x])).take (n * 1) := by rw [q4]
        rw [List.take_take] at this
        rw [show min (n * 1) ((n + 1) * 1) = n * 1 by omega] at this
        rw [this, ints_snoc, List.take_append_of_le_length (by rw [ints_length]; omega), List.take_of_length_le (by rw [ints_length]; omega)]
      · rcases h4 with h4 | ⟨g', h4⟩ | h4
        · exact .inl h4
        · injection h4 with _ h4; omega
        · exact .inr (.inr h4)
  · exact absurd h3 hne

set_option maxHeartbeats 4000000 in
theorem reftake9_back {w : World} {b : Nat} {s : St} {r : Value} (h : Ref9 w b s r) (ok : s.Ok) (hbw : b ≤ w.heap.size) (x : Int) (k n : Nat) (hm : k < s.most) (hf : s.full = false) (hsp : s.spot = k) (hn : n = (rK (s.take x)).length) (hnb : n < 1024) (hk2 : rK s = rK (s.take x) ++ [(k : Int)]) (ht2 : (s.take x).T.length = s.T.length) :
    Calls Try.prog 36 #[r, .int .i64 x] w (RefT w b (s.take x) k true) := by
  have HL := Lib.hid (take_lists ok hf x)
  have HS := Lib.hid hsp
  have HT2 := Lib.hid ht2
  have HNN := Lib.hid hn
  have h' := h
  obtain ⟨vV, vI, vK, rfl, hV, hI, hK⟩ := h
  obtain ⟨AV, cV, rfl⟩ := hV.shape
  obtain ⟨AI, cI, rfl⟩ := hI.shape
  have hBl : (rK s).length = n + 1 := by rw [hk2, List.length_append, ← hn]; rfl
  obtain ⟨AK, cK, rfl⟩ := hK.shape' hBl
  have HBL := Lib.hid hBl
  have HK2 := Lib.hid hk2
  clear hBl hf hsp hk2 ht2 hn
  rw [rV_len, rI_len] at *
  have hcap := ok.cap
  have hle := ok.le
  obtain ⟨t0, t1, hb, _⟩ := two_blocks9 w (.cells #[.slice AV s.most cV, .slice AI s.most cI, .slice AK (n + 1) cK, .int .i64 (s.T.length : Nat)] 60) (.cells #[.slice none 0 0, .slice none 0 0, .slice none 0 0, .int .i64 0] 60)
  have HB := Lib.hid hb
  have R := Lib.hid (h'.below hb)
  have OK := Lib.hid ok
  have T0 := Lib.hid t0
  have T1 := Lib.hid t1
  clear hb hV hI hK h' ok t0 t1
  go_enter Try.func36, Try.ntmps36
  go_wp2_with fail
  obtain ⟨w2, hw2⟩ : ∃ w2, w2 = (w.alloc (.cells #[.slice AV s.most cV, .slice AI s.most cI, .slice AK (n + 1) cK, .int .i64 (s.T.length : Nat)] 60)).alloc (.cells #[.slice none 0 0, .slice none 0 0, .slice none 0 0, .int .i64 0] 60) := ⟨_, rfl⟩
  obtain ⟨g0, hg0⟩ : ∃ g0, g0 = w.heap.size := ⟨_, rfl⟩
  rw [← hw2] at HB R T0 T1 ⊢
  rw [← hg0] at T0 T1 ⊢
  have hgw : w.heap.size ≤ g0 + 1 := by omega
  clear hw2 hg0
  with_reducible refine (refown9 R.out OK.out).mono ?_
  rintro e w3 ⟨uV, uI, uK, rfl, hV3, hI3, hK3, ap3, b3⟩
  obtain ⟨gV, dV, rfl, _, gv1, gv2⟩ := hV3.real k (by rw [ints_length, rV_len]; exact hm)
  obtain ⟨gI, dI, rfl, _, gi1, gi2⟩ := hI3.real k (by rw [bools_length, rI_len]; exact hm)
  obtain ⟨gK, dW, rfl, _, gk1, gk2⟩ := hK3.real n (by rw [ints_length, HBL.out]; omega)
  rw [ints_length, rV_len] at hV3 ap3
  rw [bools_length, rI_len] at hI3
  rw [ints_length, HBL.out] at hK3 ap3
  rw [ints_length, bools_length, rV_len, rI_len, ints_length, HBL.out]
  have hVI : gI ≠ gV := by
    rcases Lst.ne_type hV3 (by rw [ints_length, rV_len]; omega) hI3 (by decide) with h | h
    · have : (bools (rI s)).length = 0 := by rw [h]; rfl
      rw [bools_length, rI_len] at this; omega
    · intro e; subst e; exact h rfl
  have LL := Lib.hid (show L3 w3 w2.heap.size (.slice (some ⟨gV, 0, none⟩) s.most dV) (.slice (some ⟨gI, 0, none⟩) s.most dI) (.slice (some ⟨gK, 0, none⟩) (n + 1) dW) (rV s) (rI s) (rK s) from ⟨hV3, hI3, hK3, ap3⟩)
  have hl1 : g0 + 1 < w2.heap.size := lt_of_block T1.out
  have B3 := Lib.hid (HB.out.trans (b3.mono HB.out.size))
  have T1 := Lib.hid ((b3.block _ (lt_of_block T1.out)).trans T1.out)
  have hl3 := b3.size
  clear hV3 hI3 hK3 ap3 b3
  go_upto_region 2 with fail
  obtain ⟨o, ho⟩ : ∃ o, o = Obj.cells #[.slice (some ⟨gV, 0, none⟩) s.most dV, .slice (some ⟨gI, 0, none⟩) s.most dI, .slice (some ⟨gK, 0, none⟩) (n + 1) dW, .int .i64 (s.T.length : Nat)] 60 := ⟨_, rfl⟩
  have hA := (Below.refl _ w3).alloc (Nat.le_refl _) o
  have TG := Lib.hid (heap_alloc_new w3 o)
  have T1 := Lib.hid ((hA.block _ (lt_of_block T1.out)).trans T1.out)
  have L4 := Lib.hid (LL.out.below hA)
  have B4 := Lib.hid (B3.out.trans (hA.mono B3.out.size))
  rw [← ho]
  clear hA
  generalize (w3.alloc o) = W3 at TG T1 L4 B4 ⊢
  rw [ho] at TG
  clear ho
  obtain ⟨g2', hg2⟩ : ∃ g, g = w3.heap.size := ⟨_, rfl⟩
  rw [← hg2] at TG gv2 gi2 hl3 ⊢
  clear hg2
  have n1 : g2' ≠ gV := by omega
  have n2 : g2' ≠ gI := by omega
  have n3 : g0 + 1 ≠ gV := by omega
  have n4 : g0 + 1 ≠ gI := by omega
  have n5 : g0 + 1 ≠ g2' := by omega
  have n1' := n1.symm
  have n2' := n2.symm
  have n3' := n3.symm
  have n4' := n4.symm
  have n5' := n5.symm
  have hVI' := hVI.symm
  have hwV : w.heap.size ≤ gV := by omega
  have hwI : w.heap.size ≤ gI := by omega
  have hw2 : w.heap.size ≤ g2' := by omega
  have hbase : b ≤ w2.heap.size := by omega
  obtain ⟨i0, i1, i2, i3⟩ := four_of TG.out
  have y3 := four_fz TG.out 3
  obtain ⟨_, hgx, _, hcV⟩ := HasE.cellAt L4.out.1 rfl k (by rw [rV_len]; exact hm)
  injection hgx with hgx
  injection hgx with hgx
  subst hgx
  obtain ⟨_, hgx, _, hcI⟩ := HasB.cellAt L4.out.2.1 rfl k (by rw [rI_len]; exact hm)
  injection hgx with hgx
  injection hgx with hgx
  subst hgx
  have hfV := L4.out.frV (by rw [rV_len]; omega) k
  have hfI := L4.out.frI (by rw [rI_len]; omega) k
  have g1 : (0 : Int) ≤ (k : Int) := by omega
  have g2 : (k : Int) < (s.most : Int) := by omega
  have g3 : (0 : Int) ≤ (n : Int) := by omega
  have g4 : (n : Int) < (n : Int) + 1 := by omega
  have d1 : decide ((0 : Int) < (n : Int) + 1) = true := decide_eq_true (by omega)
  have LK4 := Lib.hid (show L3 W3 w2.heap.size (.slice (some ⟨gV, 0, none⟩) s.most dV) (.slice (some ⟨gI, 0, none⟩) s.most dI) (.slice (some ⟨gK, 0, none⟩) (n + 1) dW) (rV s) (rI s) (rK (s.take x) ++ [(k : Int)]) by rw [← HK2.out]; exact L4.out)
  obtain ⟨_, hgx, _, hcK⟩ := HasE.cellAt LK4.out.2.2.1 rfl n (by rw [List.length_append, ← HNN.out]; simp)
  injection hgx with hgx
  injection hgx with hgx
  subst hgx
  have hgk : (rK (s.take x) ++ [(k : Int)]).getD n 0 = k := by rw [HNN.out]; simp [List.getD_eq_getElem?_getD]
  rw [hgk] at hcK
  clear hgk
  obtain ⟨lk, hkc⟩ := LK4.out.cutK HNN.out
  have LC := Lib.hid lk
  have g5 : (n : Int) ≤ (dW : Int) := by omega
  have z2g := four_fz TG.out 2
  clear lk
  go_upto_region 11 with fail
  have O1 := only_one9 W3 g2' 2 (.slice (some ⟨gK, 0, none⟩) n dW)
  have TGa := set_at2 (d := .slice (some ⟨gK, 0, none⟩) n dW) TG.out
  have T1a := (O1.block _ (lt_of_block T1.out) n5).trans T1.out
  have L5 := LC.out.box TG.out 2 (.slice (some ⟨gK, 0, none⟩) n dW)
  have B5 := B4.out.setCell (p := ⟨g2', 2, none⟩) hw2 (.slice (some ⟨gK, 0, none⟩) n dW)
  have O2 := only_one9 (W3.setCell ⟨g2', 2, none⟩ (.slice (some ⟨gK, 0, none⟩) n dW)) gV k (.int .i64 x)
  have TGb := (O2.block _ (lt_of_block TGa) n1).trans TGa
  have T1b := (O2.block _ (lt_of_block T1a) n3).trans T1a
  have L6 := L5.setV k x (by rw [rV_len]; exact hm)
  have B6 := B5.setCell (p := ⟨gV, k, none⟩) hwV (.int .i64 x)
  have O3 := only_one9 ((W3.setCell ⟨g2', 2, none⟩ (.slice (some ⟨gK, 0, none⟩) n dW)).setCell ⟨gV, k, none⟩ (.int .i64 x)) gI k (.bool true)
  have TGc := Lib.hid ((O3.block _ (lt_of_block TGb) n2).trans TGb)
  have T1c := Lib.hid ((O3.block _ (lt_of_block T1b) n4).trans T1b)
  have L7 := Lib.hid (L6.setI k true (by rw [rI_len]; exact hm))
  have B7 := Lib.hid (B6.setCell (p := ⟨gI, k, none⟩) hwI (.bool true))
  clear O1 O2 O3 TGa T1a L5 B5 TGb T1b L6 B6 i0 i1 i2 i3 y3 hcV hcI hfV hfI hcK z2g
  generalize (((W3.setCell ⟨g2', 2, none⟩ (.slice (some ⟨gK, 0, none⟩) n dW)).setCell ⟨gV, k, none⟩ (.int .i64 x)).setCell ⟨gI, k, none⟩ (.bool true)) = W5 at TGc T1c L7 B7 ⊢
  obtain ⟨i0, i1, i2, i3⟩ := four_of TGc.out
  obtain ⟨j0, j1, j2, j3⟩ := four_of T1c.out
  have z0' := four_fz T1c.out 0
  have z1' := four_fz T1c.out 1
  have z2' := four_fz T1c.out 2
  have z3' := four_fz T1c.out 3
  go_wp2_with fail
  have e1 := HL.out.1
  have e2 := HL.out.2
  rw [HS.out] at e1 e2
  refine bodyPost_ret (v := .tuple #[.agg #[.slice (some ⟨gV, 0, none⟩) s.most dV, .slice (some ⟨gI, 0, none⟩) s.most dI, .slice (some ⟨gK, 0, none⟩) n dW, .int .i64 (s.T.length : Nat)], .int .i64 (k : Nat), .bool true]) (by simp [results, Try.results36, go_sem, j0, j1, j2, j3]) rfl ⟨_, rfl, ?_, ?_⟩
  · exact ((L7.out.four T1c.out).mono hbase).ref (f := s.T.length) e1 e2 rfl HT2.out
  · exact below_four B7.out hgw _ _ _ _

/-- what a take hands back, whatever happens -/
def RefTk (w : World) (b : Nat) (s : St) (x : Int) (e : Ending) (w' : World) : Prop :=
  ∃ v, e = .returned (.tuple #[v, .int .i64 (takeI s), .bool (!s.full)]) ∧ Ref9 w' b (s.take x) v ∧ Below w.heap.size w w'

theorem reftake9 {w : World} {b : Nat} {s : St} {r : Value} (h : Ref9 w b s r) (ok : s.Ok) (hbw : b ≤ w.heap.size) (x : Int) : Calls Try.prog 36 #[r, .int .i64 x] w (RefTk w b s x) := by
  rcases take_ways ok x with ⟨hB, hm, hf, ht⟩ | ⟨hB, hm, hf, hsp, hk1, hk2, ht⟩ | ⟨k, r', hB, hf, hsp, hk, ht⟩
  · refine (reftake9_full h ok x hB hm).mono ?_
    rintro e w' ⟨v, he, hr, hb⟩
    refine ⟨v, ?_, by rw [ht]; exact hr, hb⟩
    rw [he, hf]
    have : takeI s = 0 := by simp [takeI, hf]
    rw [this]; rfl
  · refine (reftake9_fresh h ok hbw x hB hm hf hsp hk2 ht).mono ?_
    rintro e w' ⟨v, he, hr, hb⟩
    refine ⟨v, ?_, hr, hb⟩
    rw [he, hf]
    have : takeI s = (s.T.length : Nat) := by simp [takeI, hf, hsp]
    rw [this]; rfl
  · have h1 := (ok.take_at hf x).1
    have h2 := St.Ok.blen ok
    have h3 := ok.le
    have h4 := ok.cap
    have h5 : (rK s).length = (rK (s.take x)).length + 1 := by rw [hk]; simp
    rw [rK_len] at h5
    refine (reftake9_back h ok hbw x k (rK (s.take x)).length (by rw [← hsp]; exact h1) hf hsp rfl (by omega) hk ht).mono ?_
    rintro e w' ⟨v, he, hr, hb⟩
    refine ⟨v, ?_, hr, hb⟩
    rw [he, hf]
    have : takeI s = (k : Nat) := by simp [takeI, hf, hsp]
    rw [this]; rfl

theorem refswap9 {w : World} {b : Nat} {s : St} {r : Value} (h : Ref9 w b s r) (ok : s.Ok) (hbw : b ≤ w.heap.size) (i x : Int) : Calls Try.prog 39 #[r, .int .i64 i, .int .i64 x] w (RefG w b (s.swap i x) (s.has i)) := by
  cases hh : s.has i with
  | false => rw [swap_no9 hh]; exact refswap9_no h ok i x hh
  | true =>
    obtain ⟨k, rfl, _⟩ := has_yes ok hh
    exact refswap9_yes h ok hbw k x hh

end Go.Proofs.Ytjcmbddiffebhaa
