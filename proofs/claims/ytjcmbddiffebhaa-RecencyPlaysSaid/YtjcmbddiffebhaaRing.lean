/-
  Plain mathematics of the ring of links: taking a number out of its place, laying one in front.
-/
import Derived.Test.YtjcmbddiffebhaaRecB
namespace Go.Proofs.Ytjcmbddiffebhaa

/-- all but one -/
def wo (L : List Int) (x : Int) : List Int := L.filter fun y => decide (y ≠ x)

def Chain (m : Nat) (L : List Int) (ah bh : Int → Int) : Prop := ∀ j, j ≤ L.length → bh (nth m L j) = nth m L (j + 1) ∧ ah (nth m L (j + 1)) = nth m L j

/-- each stands once, and may be there -/
def Good (m : Nat) (L : List Int) : Prop := L.Nodup ∧ ∀ x ∈ L, 0 ≤ x ∧ x < m

theorem nth_end (m : Nat) (L : List Int) : nth m L (L.length + 1) = m := by
  simp [nth, List.getD_eq_getElem?_getD]

theorem nth_get (m : Nat) (L : List Int) (j : Nat) (h : j < L.length) : nth m L (j + 1) = L[j] := by
  simp [nth, List.getD_eq_getElem?_getD, List.getElem?_eq_getElem h]

theorem nth_mem (m : Nat) (L : List Int) (j : Nat) (h : j < L.length) : nth m L (j + 1) ∈ L := by
  rw [nth_get m L j h]; exact List.getElem_mem h

theorem nth_inj {m : Nat} {L : List Int} (g : Good m L) {i j : Nat} (hi : i ≤ L.length) (hj : j ≤ L.length) (h : nth m L i = nth m L j) : i = j := by
  cases i with
  | zero =>
    cases j with
    | zero => rfl
    | succ j => rw [nth_zero] at h; have := g.2 _ (nth_mem m L j (by omega)); omega
  | succ i =>
    cases j with
    | zero => rw [nth_zero] at h; have := g.2 _ (nth_mem m L i (by omega)); omega
    | succ j =>
      rw [nth_get m L i (by omega), nth_get m L j (by omega)] at h
      have := (List.getElem_inj g.1).1 h
      omega

theorem nth_range {m : Nat} {L : List Int} (g : Good m L) (j : Nat) : 0 ≤ nth m L j ∧ nth m L j ≤ m := by
  cases j with
  | zero => rw [nth_zero]; omega
  | succ j =>
    by_cases h : j < L.length
    · have := g.2 _ (nth_mem m L j h); omega
    · have : nth m L (j + 1) = m := by simp [nth, List.getD_eq_getElem?_getD, List.getElem?_eq_none (show L.length ≤ j by omega)]
      omega

theorem good_le : ∀ (m : Nat) (L : List Int), Good m L → L.length ≤ m
  | 0, L, g => by
    cases L with
    | nil => simp
    | cons x L => have := g.2 x (by simp); omega
  | m + 1, L, g => by
    by_cases h : (m : Int) ∈ L
    · have h1 := List.length_erase_of_mem h
      have h2 := good_le m (L.erase m) ⟨g.1.erase _, fun x hx => by
        have := (List.Nodup.mem_erase_iff g.1).1 hx
        have := g.2 x this.2
        omega⟩
      have h3 : 0 < L.length := List.length_pos_of_mem h
      omega
    · have := good_le m L ⟨g.1, fun x hx => by
        have := g.2 x hx
        have : x ≠ m := fun e => h (e ▸ hx)
        omega⟩
      omega

theorem wo_split {L1 L2 : List Int} {x : Int} (h : (L1 ++ x :: L2).Nodup) : wo (L1 ++ x :: L2) x = L1 ++ L2 := by
  rw [List.nodup_append] at h
  obtain ⟨h1, h2, h3⟩ := h
  rw [List.nodup_cons] at h2
  unfold wo
  rw [List.filter_append, List.filter_cons_of_neg (by simp)]
  congr 1
  · exact List.filter_eq_self.2 fun y hy => by simp; exact fun e => h3 y hy x (by simp) e
  · exact List.filter_eq_self.2 fun y hy => by simp; exact fun e => h2.1 (e ▸ hy)

theorem wo_not {L : List Int} {x : Int} (h : x ∉ L) : wo L x = L := List.filter_eq_self.2 fun y hy => by simp; exact fun e => h (e ▸ hy)
theorem wo_sub {L : List Int} {x y : Int} : y ∈ wo L x ↔ y ∈ L ∧ y ≠ x := by simp [wo]
theorem wo_good {m : Nat} {L : List Int} (g : Good m L) (x : Int) : Good m (wo L x) := ⟨g.1.filter _, fun y hy => g.2 y (wo_sub.1 hy).1⟩
theorem push_good {m : Nat} {L : List Int} (g : Good m L) (x : Int) (h0 : 0 ≤ x) (h1 : x < m) : Good m (x :: wo L x) :=
  ⟨List.nodup_cons.2 ⟨fun h => (wo_sub.1 h).2 rfl, (wo_good g x).1⟩, fun y hy => by
    rcases List.mem_cons.1 hy with rfl | hy
    · exact ⟨h0, h1⟩
    · exact (wo_good g x).2 y hy⟩
theorem wo_len {L : List Int} {x : Int} (h : L.Nodup) (hx : x ∈ L) : (wo L x).length + 1 = L.length := by
  obtain ⟨L1, L2, rfl⟩ := List.append_of_mem hx
  rw [wo_split h]; simp; omega

theorem nth_cut (m : Nat) (L1 L2 : List Int) (x : Int) (j : Nat) : nth m (L1 ++ L2) j = if j ≤ L1.length then nth m (L1 ++ x :: L2) j else nth m (L1 ++ x :: L2) (j + 1) := by
  cases j with
  | zero => simp [nth]
  | succ j =>
    simp only [nth, List.getD_cons_succ]
    split
    · rename_i h
      simp [List.getD_eq_getElem?_getD, List.getElem?_append, show j < L1.length by omega]
    · rename_i h
      simp only [List.getD_eq_getElem?_getD, List.getElem?_append]
      rw [if_neg (by omega), if_neg (by omega), show j + 1 - L1.length = (j - L1.length) + 1 by omega, List.getElem?_cons_succ]

/-- a number taken out -/
theorem chain_cut {m : Nat} {L : List Int} {ah bh : Int → Int} {x : Int} (g : Good m L) (hc : Chain m L ah bh) (hx : x ∈ L) :
    Chain m (wo L x) (upd ah (bh x) (ah x)) (upd bh (ah x) (bh x)) ∧ 0 ≤ ah x ∧ ah x ≤ m ∧ 0 ≤ bh x ∧ bh x ≤ m := by
  obtain ⟨L1, L2, rfl⟩ := List.append_of_mem hx
  rw [wo_split g.1]
  have hl : (L1 ++ x :: L2).length = L1.length + L2.length + 1 := by simp; omega
  have hk : nth m (L1 ++ x :: L2) (L1.length + 1) = x := by rw [nth_get m _ _ (by simp)]; simp
  have ha : ah x = nth m (L1 ++ x :: L2) L1.length := by have := (hc L1.length (by omega)).2; rw [hk] at this; exact this
  have hb : bh x = nth m (L1 ++ x :: L2) (L1.length + 2) := by have := (hc (L1.length + 1) (by omega)).1; rw [hk] at this; exact this
  refine ⟨?_, ?_⟩
  · have hend : nth m (L1 ++ x :: L2) ((L1 ++ x :: L2).length + 1) = nth m (L1 ++ x :: L2) 0 := by rw [nth_end, nth_zero]
    have inj : ∀ i j, i ≤ (L1 ++ x :: L2).length → j ≤ (L1 ++ x :: L2).length → i ≠ j → nth m (L1 ++ x :: L2) i ≠ nth m (L1 ++ x :: L2) j := fun i j hi hj hne h => hne (nth_inj g hi hj h)
    have inj' : ∀ i j, 0 < i → i ≤ (L1 ++ x :: L2).length + 1 → 0 < j → j ≤ (L1 ++ x :: L2).length + 1 → i ≠ j → nth m (L1 ++ x :: L2) i ≠ nth m (L1 ++ x :: L2) j := by
      intro i j i0 hi j0 hj hne
      by_cases h1 : i = (L1 ++ x :: L2).length + 1
      · rw [h1, hend]; exact inj 0 j (by omega) (by omega) (by omega)
      · by_cases h2 : j = (L1 ++ x :: L2).length + 1
        · rw [h2, hend]; exact inj i 0 (by omega) (by omega) (by omega)
        · exact inj i j (by omega) (by omega) hne
    intro j hj
    rw [List.length_append] at hj
    rw [nth_cut m L1 L2 x j, nth_cut m L1 L2 x (j + 1), ha, hb]
    unfold upd
    constructor
    · by_cases h1 : j < L1.length
      · rw [if_pos (show j ≤ L1.length by omega), if_pos (show j + 1 ≤ L1.length by omega), if_neg (inj j L1.length (by omega) (by omega) (by omega))]
        exact (hc j (by omega)).1
      · by_cases h2 : j = L1.length
        · subst h2; rw [if_pos (Nat.le_refl _), if_neg (show ¬ L1.length + 1 ≤ L1.length by omega), if_pos rfl]
        · rw [if_neg (show ¬ j ≤ L1.length by omega), if_neg (show ¬ j + 1 ≤ L1.length by omega), if_neg (inj (j + 1) L1.length (by omega) (by omega) (by omega))]
          exact (hc (j + 1) (by omega)).1
    · by_cases h1 : j < L1.length
      · rw [if_pos (show j ≤ L1.length by omega), if_pos (show j + 1 ≤ L1.length by omega), if_neg (inj' (j + 1) (L1.length + 2) (by omega) (by omega) (by omega) (by omega) (by omega))]
        exact (hc j (by omega)).2
      · by_cases h2 : j = L1.length
        · subst h2; rw [if_pos (Nat.le_refl _), if_neg (show ¬ L1.length + 1 ≤ L1.length by omega), if_pos rfl]
        · rw [if_neg (show ¬ j ≤ L1.length by omega), if_neg (show ¬ j + 1 ≤ L1.length by omega), if_neg (inj' (j + 1 + 1) (L1.length + 2) (by omega) (by omega) (by omega) (by omega) (by omega))]
          exact (hc (j + 1) (by omega)).2
  · have r1 := nth_range g L1.length
    have r2 := nth_range g (L1.length + 2)
    rw [ha, hb]
    omega

theorem nth_push (m : Nat) (L : List Int) (x : Int) (j : Nat) : nth m (x :: L) (j + 2) = nth m L (j + 1) := rfl

/-- a number laid in front -/
theorem chain_push {m : Nat} {L : List Int} {ah bh : Int → Int} {x : Int} (g : Good m L) (hc : Chain m L ah bh) (hx : x ∉ L) (h1 : x < m) :
    Chain m (x :: L) (upd (upd ah x m) (bh m) x) (upd (upd bh m x) x (bh m)) := by
  have hb : bh m = nth m L 1 := by have := (hc 0 (by omega)).1; rwa [nth_zero] at this
  have hne : ∀ j, nth m L j ≠ x := by
    intro j h
    cases j with
    | zero => rw [nth_zero] at h; omega
    | succ j =>
      by_cases hj : j < L.length
      · exact hx (h ▸ nth_mem m L j hj)
      · have : nth m L (j + 1) = m := by simp [nth, List.getD_eq_getElem?_getD, List.getElem?_eq_none (show L.length ≤ j by omega)]
        omega
  intro j hj
  rw [List.length_cons] at hj
  rw [hb]
  match j, hj with
  | 0, _ =>
    have e0 : nth m (x :: L) 0 = m := rfl
    have e1 : nth m (x :: L) 1 = x := rfl
    rw [e0, e1]
    unfold upd
    constructor
    · rw [if_neg (by omega), if_pos rfl]
    · rw [if_neg (Ne.symm (hne 1)), if_pos rfl]
  | 1, _ =>
    have e1 : nth m (x :: L) 1 = x := rfl
    rw [nth_push m L x 0, e1]
    unfold upd
    exact ⟨by rw [if_pos rfl], by rw [if_pos rfl]⟩
  | j + 2, hj =>
    rw [nth_push m L x j, nth_push m L x (j + 1)]
    unfold upd
    constructor
    · rw [if_neg (hne _), if_neg (fun h => by
        have := nth_inj g (i := j + 1) (j := 0) (by omega) (by omega) (by rw [nth_zero]; exact h)
        omega)]
      exact (hc (j + 1) (by omega)).1
    · rw [if_neg (fun h => by
        by_cases h2 : j + 2 = L.length + 1
        · rw [show j + 1 + 1 = L.length + 1 by omega, nth_end] at h
          have := nth_inj g (i := 0) (j := 1) (by omega) (by omega) (by rw [nth_zero]; exact h)
          omega
        · have := nth_inj g (i := j + 1 + 1) (j := 1) (by omega) (by omega) h
          omega), if_neg (hne _)]
      exact (hc (j + 1) (by omega)).2

/-- the last one is ahead of the end -/
theorem chain_last {m : Nat} {L : List Int} {ah bh : Int → Int} (hc : Chain m L ah bh) : ah m = nth m L L.length := by
  have := (hc L.length (Nat.le_refl _)).2
  rwa [nth_end] at this

end Go.Proofs.Ytjcmbddiffebhaa
