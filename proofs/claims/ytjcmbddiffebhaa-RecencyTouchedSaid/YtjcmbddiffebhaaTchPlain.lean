/-
  RecencyTouched, plainly: numbers touched one behind the other stand from the last one on, each where it was touched last.
-/
import Derived.Test.YtjcmbddiffebhaaRecD
namespace Go.Proofs.Ytjcmbddiffebhaa

/-- touched one behind the other -/
def touches (n : Nat) (Z : List Int) : List Int := Z.foldl (tch n) []
/-- looked through one behind the other, each taken once -/
def met (n : Nat) (W : List Int) (x : Int) : List Int := if mayB n x && !inB W x then W ++ [x] else W
def wants (n : Nat) (Z : List Int) : List Int := Z.foldl (met n) []

theorem touches_snoc (n : Nat) (Z : List Int) (x : Int) : touches n (Z ++ [x]) = tch n (touches n Z) x := by simp [touches]
theorem wants_snoc (n : Nat) (Z : List Int) (x : Int) : wants n (Z ++ [x]) = met n (wants n Z) x := by simp [wants]

theorem wo_append (L M : List Int) (x : Int) : wo (L ++ M) x = wo L x ++ wo M x := by simp [wo]

theorem met_front (n : Nat) (x : Int) (Z : List Int) : ∀ W : List Int, Z.foldl (met n) (x :: wo W x) = x :: wo (Z.foldl (met n) W) x := by
  induction Z with
  | nil => intro W; rfl
  | cons y Z ih =>
    intro W
    rw [List.foldl_cons, List.foldl_cons]
    have e : met n (x :: wo W x) y = x :: wo (met n W y) x := by
      unfold met
      by_cases h : y = x
      · subst h
        have h1 : inB (y :: wo W y) y = true := by simp [inB]
        rw [h1]
        simp only [Bool.not_true, Bool.and_false, Bool.false_eq_true, if_false]
        split
        · rw [wo_append]
          have : wo [y] y = [] := by simp [wo]
          rw [this, List.append_nil]
        · rfl
      · have h1 : inB (x :: wo W x) y = inB W y := by simp [inB, wo_sub, h]
        rw [h1]
        split
        · rw [wo_append]
          have : wo [y] x = [y] := by simp [wo, h]
          rw [this]; rfl
        · rfl
    rw [e]
    exact ih _

theorem wants_cons (n : Nat) (x : Int) (Z : List Int) : wants n (x :: Z) = if mayB n x then x :: wo (wants n Z) x else wants n Z := by
  unfold wants
  rw [List.foldl_cons]
  have e : met n [] x = if mayB n x then [x] else [] := by simp [met, inB]
  rw [e]
  split
  · exact met_front n x Z []
  · rfl

/-- what was touched stands from the last one on -/
theorem touches_wants (n : Nat) (Z : List Int) : touches n Z = wants n Z.reverse := by
  induction h : Z.length generalizing Z with
  | zero => rw [List.length_eq_zero_iff.1 h]; rfl
  | succ k ih =>
    rcases List.eq_nil_or_concat Z with rfl | ⟨Z0, x, rfl⟩
    · simp at h
    · rw [List.concat_eq_append] at h ⊢
      have := ih Z0 (by simpa using h)
      rw [touches_snoc, List.reverse_append, List.reverse_singleton, List.singleton_append, wants_cons, ← this]
      by_cases e : mayB n x = true
      · rw [e, if_pos rfl]
        unfold tch
        rw [if_pos (by simpa [mayB] using e)]
      · rw [if_neg e]
        unfold tch
        rw [if_neg (by simpa [mayB] using e)]

theorem wants_may (n : Nat) (Z : List Int) : ∀ x ∈ wants n Z, mayB n x = true := by
  have : ∀ W : List Int, (∀ x ∈ W, mayB n x = true) → ∀ x ∈ Z.foldl (met n) W, mayB n x = true := by
    induction Z with
    | nil => intro W h; exact h
    | cons y Z ih =>
      intro W h
      rw [List.foldl_cons]
      refine ih _ fun x hx => ?_
      unfold met at hx
      split at hx
      · rename_i he
        rcases List.mem_append.1 hx with hx | hx
        · exact h x hx
        · rw [List.mem_singleton.1 hx]; simp at he; exact he.1
      · exact h x hx
  exact this [] (by simp)

theorem mayB_no {n : Nat} {x : Int} (h : x < 0 ∨ (n : Int) ≤ x) : mayB n x = false := by simp [mayB]; omega
theorem mayB_yes {n : Nat} {x : Int} (h : 0 ≤ x) (h' : x < n) : mayB n x = true := by simp [mayB]; omega
theorem met_no {n : Nat} {W : List Int} {x : Int} (h : x < 0 ∨ (n : Int) ≤ x) : met n W x = W := by simp [met, mayB_no h]
theorem met_in {n : Nat} {W : List Int} {x : Int} (h : inB W x = true) : met n W x = W := by simp [met, h]
theorem met_new {n : Nat} {W : List Int} {x : Int} (h0 : 0 ≤ x) (h1 : x < n) (h : inB W x = false) : met n W x = W ++ [x] := by simp [met, h, mayB_yes h0 h1]
theorem inB_snoc (W : List Int) (x : Int) : inB (W ++ [x]) = fun y => if y = x then true else inB W y := by
  funext y
  by_cases h : y = x <;> simp [inB, h]

theorem wants_len (n : Nat) (Z : List Int) : (wants n Z).length ≤ Z.length := by
  have : ∀ W : List Int, (Z.foldl (met n) W).length ≤ W.length + Z.length := by
    induction Z with
    | nil => intro W; simp
    | cons y Z ih =>
      intro W
      rw [List.foldl_cons, List.length_cons]
      have h1 := ih (met n W y)
      have h2 : (met n W y).length ≤ W.length + 1 := by unfold met; split <;> simp
      omega
  have h := this []
  simp only [List.length_nil, Nat.zero_add] at h
  exact h

end Go.Proofs.Ytjcmbddiffebhaa
