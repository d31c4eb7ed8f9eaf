/-
  The document's answer for layer 9 (kedgeref09): lists of marks, and the functions that only read.
-/
import Derived.Test.YtjcmbddiffebhaaSloG
import Derived.Test.YtjcmbddiffebhaaInts
import Derived.Laws.OwnMore
namespace Go.Proofs.Ytjcmbddiffebhaa
open Go.RowKit

def bools (L : List Bool) : List Value := L.map Value.bool
@[simp] theorem bools_length (L : List Bool) : (bools L).length = L.length := by simp [bools]

/-- a list that the call owns, one cell a thing; or one with nothing in it, wherever it points -/
def Lst (w : World) (b : Nat) (e : TypeId) (v : Value) (xs : List Value) : Prop :=
  w.ownsRow b e 1 v xs.length xs ∨ (xs = [] ∧ ∃ g, v = .slice (some ⟨g, 0, none⟩) 0 0)

namespace Lst
variable {w w' : World} {b : Nat} {e : TypeId} {v : Value} {xs : List Value}
theorem below (h : Lst w b e v xs) (hb : Below w.heap.size w w') : Lst w' b e v xs := by
  rcases h with h | h
  · exact .inl ((Only.ofBelow (S := fun _ => False) hb).owns h (fun _ _ h => h))
  · exact .inr h
theorem mono {b' : Nat} (h : Lst w b e v xs) (hb : b' ≤ b) : Lst w b' e v xs := by
  rcases h with ⟨h1, h2⟩ | h
  · refine .inl ⟨h1, ?_⟩
    rcases h2 with h2 | ⟨g, cap, cur, hv, hg, r⟩
    · exact .inl h2
    · exact .inr ⟨g, cap, cur, hv, Nat.le_trans hb hg, r⟩
  · exact .inr h
theorem shape (h : Lst w b e v xs) : ∃ A c, v = .slice A xs.length c := by
  rcases h with h | ⟨rfl, g, rfl⟩
  · rcases h.2 with ⟨rfl, h0⟩ | ⟨g, cap, cur, rfl, _⟩
    · exact ⟨none, 0, by rw [h0]⟩
    · exact ⟨_, _, rfl⟩
  · exact ⟨_, _, rfl⟩
theorem skept {p : Nat} (h : Lst w b e v xs) (hk : SKept p w w') (h1 : e ≠ 72) (h2 : e ≠ 78) : Lst w' b e v xs := by
  rcases h with h | h
  · exact .inl (hk.owns h h1 h2)
  · exact .inr h
theorem cellAt (h : Lst w b e v xs) {A : Option Addr} {c n : Nat} (hv : v = .slice A n c) (i : Nat) (x : Value) (hi : xs[i]? = some x) : ∃ g, A = some ⟨g, 0, none⟩ ∧ v.ownBlock = some g ∧ w.cell? ⟨g, i, none⟩ = some x := by
  rcases h with h | ⟨rfl, _⟩
  · have hlt : i < xs.length := (List.getElem?_eq_some_iff.1 hi).1
    rcases h.2 with ⟨_, h0⟩ | ⟨g, cap, cur, hv', _, hh, h1, h2, h3, h4⟩
    · omega
    · subst hv
      injection hv' with e1 e2 e3
      subst e1
      refine ⟨g, rfl, rfl, ?_⟩
      have hc := World.ownsRow.cells h (g := g) rfl i _ hi
      have ha : (⟨g, 0, none⟩ : Addr).add i = ⟨g, i, none⟩ := by unfold Addr.add; split <;> simp_all
      rwa [ha] at hc
  · simp at hi
end Lst

namespace Lst
variable {w w' : World} {b b2 : Nat} {e e2 : TypeId} {v u : Value} {xs ys : List Value}
theorem real (h : Lst w b e v xs) (j : Nat) (hj : j < xs.length) : ∃ g c, v = .slice (some ⟨g, 0, none⟩) xs.length c ∧ w.ownsRow b e 1 v xs.length xs ∧ b ≤ g ∧ g < w.heap.size := by
  rcases h with h | ⟨rfl, _⟩
  · rcases h.2 with ⟨_, h0⟩ | ⟨g, cap, cur, hv, hb, hh, _⟩
    · omega
    · exact ⟨g, cap, hv, h, hb, lt_of_block hh⟩
  · simp at hj
theorem set {g n c : Nat} (h : Lst w b e (.slice (some ⟨g, 0, none⟩) n c) xs) (j : Nat) (y : Value) (hj : j < xs.length) :
    Lst (w.setCell ⟨g, j, none⟩ y) b e (.slice (some ⟨g, 0, none⟩) n c) (xs.set j y) := by
  obtain ⟨g', c', hv, ho, _⟩ := h.real j hj
  injection hv with e1 e2 e3
  subst e2
  refine .inl ?_
  rw [List.length_set]
  exact (World.ownsRow.stored ho j y).1
theorem other {g : Nat} (h : Lst w b e v xs) (hg : xs = [] ∨ v.ownBlock ≠ some g) (j : Nat) (y : Value) : Lst (w.setCell ⟨g, j, none⟩ y) b e v xs := by
  rcases h with h | h
  · rcases hg with hg | hg
    · subst hg
      rcases h.2 with ⟨hv, _⟩ | ⟨g', cap, cur, hv, hb, hh, h1, h2, h3, h4⟩
      · subst hv; exact .inl (World.ownsRow_nil _ _ _ _)
      · subst hv
        by_cases e : g' = g
        · subst e
          have := (World.ownsRow.stored (g := g') h j y).1
          refine .inl ?_
          simpa using this
        · exact .inl (((Only.refl (fun k => k = g) w).setCell (p := ⟨g, j, none⟩) (.inl rfl) y).owns h (fun k hk h' => e (by rw [← h']; simpa [Value.ownBlock] using hk)))
    · exact .inl (((Only.refl (fun k => k = g) w).setCell (p := ⟨g, j, none⟩) (.inl rfl) y).owns h (fun k hk h' => hg (by rw [hk, h'])))
  · exact .inr h
theorem ne_type {g n c : Nat} (h : Lst w b e (.slice (some ⟨g, 0, none⟩) n c) xs) (hn : 0 < xs.length) (h2 : Lst w b2 e2 u ys) (he : e ≠ e2) : ys = [] ∨ u.ownBlock ≠ some g := by
  rcases h with h | ⟨rfl, _⟩
  · rcases h.2 with ⟨hv, _⟩ | ⟨g', cap, cur, hv, hb, hh, _⟩
    · cases hv
    · injection hv with e1 _ _
      injection e1 with e1
      injection e1 with e1
      subst e1
      rcases h2 with h2 | ⟨h2, _⟩
      · rcases h2.2 with ⟨hv2, _⟩ | ⟨g2, cap2, cur2, hv2, hb2, hh2, _⟩
        · subst hv2; exact .inr (by simp [Value.ownBlock])
        · subst hv2
          refine .inr fun e => ?_
          have : g2 = g := by simpa [Value.ownBlock] using e
          subst this
          rw [hh] at hh2
          injection hh2 with hh2
          injection hh2 with _ ht
          exact he ht
      · exact .inl h2
  · simp at hn
/-- a block of another type is none of its own -/
theorem ne_block {g : Nat} {c : Array Value} {t : TypeId} (h : Lst w b e v xs) (hg : w.heap[g]? = some (.cells c t (0, 0))) (he : e ≠ t) : xs = [] ∨ v.ownBlock ≠ some g := by
  rcases h with h | ⟨h, _⟩
  · rcases h.2 with ⟨hv, _⟩ | ⟨g2, cap2, cur2, hv2, hb2, hh2, _⟩
    · subst hv; exact .inr (by simp [Value.ownBlock])
    · subst hv2
      refine .inr fun e' => ?_
      have : g2 = g := by simpa [Value.ownBlock] using e'
      subst this
      rw [hg] at hh2
      injection hh2 with hh2
      injection hh2 with _ ht
      exact he ht.symm
  · exact .inl h
end Lst

def HasE (w : World) (base : Nat) (v : Value) (L : List Int) : Prop := Lst w base 3 v (ints L)
def HasB (w : World) (base : Nat) (v : Value) (L : List Bool) : Prop := Lst w base 4 v (bools L)

namespace HasE
variable {w w' : World} {base : Nat} {v : Value} {L : List Int}
theorem of (h : Has w base v L) : HasE w base v L := by
  refine .inl ?_
  rw [ints_length]
  exact h
theorem drewN (h : HasE w base v L) (n : Nat) : HasE (w.drewN n) base v L := h
theorem below (h : HasE w base v L) (hb : Below w.heap.size w w') : HasE w' base v L := Lst.below h hb
theorem shape (h : HasE w base v L) : ∃ A c, v = .slice A L.length c := by
  have := Lst.shape h
  rwa [ints_length] at this
theorem shape' {n : Nat} (h : HasE w base v L) (hn : L.length = n) : ∃ A c, v = .slice A n c := hn ▸ h.shape
theorem mono {b' : Nat} (h : HasE w base v L) (hb : b' ≤ base) : HasE w b' v L := Lst.mono h hb
theorem cellAt (h : HasE w base v L) {A : Option Addr} {c n : Nat} (hv : v = .slice A n c) (i : Nat) (hi : i < L.length) : ∃ g, A = some ⟨g, 0, none⟩ ∧ v.ownBlock = some g ∧ w.cell? ⟨g, i, none⟩ = some (.int .i64 (L.getD i 0)) :=
  Lst.cellAt h hv i _ (by simp [ints, List.getElem?_eq_getElem hi, List.getD_eq_getElem?_getD])
theorem len_of {g : Nat} (h : HasE w base v L) (hv : v = .slice (some ⟨g, 0, none⟩) 0 0) : L.length = 0 := by
  obtain ⟨A, c, e⟩ := h.shape
  rw [hv] at e
  injection e with _ e _
  exact e.symm
theorem nil_of (h : HasE w base v L) (hv : ∃ g, v = .slice (some ⟨g, 0, none⟩) 0 0) : ints L = [] := by
  obtain ⟨g, hv⟩ := hv
  have := List.length_eq_zero_iff.1 (h.len_of hv)
  rw [this]; rfl
end HasE

namespace HasB
variable {w w' : World} {base : Nat} {v : Value} {L : List Bool}
theorem drewN (h : HasB w base v L) (n : Nat) : HasB (w.drewN n) base v L := h
theorem below (h : HasB w base v L) (hb : Below w.heap.size w w') : HasB w' base v L := Lst.below h hb
theorem shape (h : HasB w base v L) : ∃ A c, v = .slice A L.length c := by
  have := Lst.shape h
  rwa [bools_length] at this
theorem shape' {n : Nat} (h : HasB w base v L) (hn : L.length = n) : ∃ A c, v = .slice A n c := hn ▸ h.shape
theorem mono {b' : Nat} (h : HasB w base v L) (hb : b' ≤ base) : HasB w b' v L := Lst.mono h hb
theorem cellAt (h : HasB w base v L) {A : Option Addr} {c n : Nat} (hv : v = .slice A n c) (i : Nat) (hi : i < L.length) : ∃ g, A = some ⟨g, 0, none⟩ ∧ v.ownBlock = some g ∧ w.cell? ⟨g, i, none⟩ = some (.bool (L.getD i false)) :=
  Lst.cellAt h hv i _ (by simp [bools, List.getElem?_eq_getElem hi, List.getD_eq_getElem?_getD])
end HasB

/-! ### the state as the document has it -/
def rV (s : St) : List Int := (List.range s.most).map fun i : Nat => s.get i
def rI (s : St) : List Bool := (List.range s.most).map fun i : Nat => s.has i
def rK (s : St) : List Int := s.B.reverse.map Int.ofNat
@[simp] theorem rV_len (s : St) : (rV s).length = s.most := by simp [rV]
@[simp] theorem rI_len (s : St) : (rI s).length = s.most := by simp [rI]
@[simp] theorem rK_len (s : St) : (rK s).length = s.B.length := by simp [rK]
theorem rV_get {s : St} {k : Nat} (h : k < s.most) : (rV s).getD k 0 = s.get k := by
  simp [rV, List.getD_eq_getElem?_getD, List.getElem?_map, List.getElem?_range h]
theorem rI_get {s : St} {k : Nat} (h : k < s.most) : (rI s).getD k false = s.has k := by
  simp [rI, List.getD_eq_getElem?_getD, List.getElem?_map, List.getElem?_range h]

/-- the document's struct, by value -/
def Ref9 (w : World) (b : Nat) (s : St) (r : Value) : Prop :=
  ∃ vV vI vK, r = .agg #[vV, vI, vK, .int .i64 (s.T.length : Nat)] ∧ HasE w b vV (rV s) ∧ HasB w b vI (rI s) ∧ HasE w b vK (rK s)

theorem Ref9.below {w w' : World} {b : Nat} {s : St} {r : Value} (h : Ref9 w b s r) (hb : Below w.heap.size w w') : Ref9 w' b s r := by
  obtain ⟨vV, vI, vK, e, h1, h2, h3⟩ := h
  exact ⟨vV, vI, vK, e, h1.below hb, h2.below hb, h3.below hb⟩
theorem Ref9.drewN {w : World} {b : Nat} {s : St} {r : Value} (h : Ref9 w b s r) (n : Nat) : Ref9 (w.drewN n) b s r := h
theorem Ref9.mono {w : World} {b b' : Nat} {s : St} {r : Value} (h : Ref9 w b s r) (hb : b' ≤ b) : Ref9 w b' s r := by
  obtain ⟨vV, vI, vK, e, h1, h2, h3⟩ := h
  exact ⟨vV, vI, vK, e, h1.mono hb, h2.mono hb, h3.mono hb⟩
theorem Ref9.skept {w w' : World} {p b : Nat} {s : St} {r : Value} (h : Ref9 w b s r) (hk : SKept p w w') : Ref9 w' b s r := by
  obtain ⟨vV, vI, vK, e, h1, h2, h3⟩ := h
  exact ⟨vV, vI, vK, e, Lst.skept h1 hk (by decide) (by decide), Lst.skept h2 hk (by decide) (by decide), Lst.skept h3 hk (by decide) (by decide)⟩

def RefB9 (w : World) (b : Bool) (e : Ending) (w' : World) : Prop := e = .returned (.bool b) ∧ Below w.heap.size w w'

theorem has_not {s : St} (ok : s.Ok) {i : Int} (h : i < 0 ∨ (s.most : Int) ≤ i) : s.has i = false := by
  cases hh : s.has i with
  | false => rfl
  | true =>
    have := St.has_lt hh
    have := ok.le
    omega

theorem four_of {w : World} {g : Nat} {x y z u : Value} {t : TypeId} (h : w.heap[g]? = some (.cells #[x, y, z, u] t (0, 0))) :
    w.cell? ⟨g, 0, none⟩ = some x ∧ w.cell? ⟨g, 1, none⟩ = some y ∧ w.cell? ⟨g, 2, none⟩ = some z ∧ w.cell? ⟨g, 3, none⟩ = some u := by
  simp [World.cell?, h]

set_option maxHeartbeats 1000000 in
theorem refhas9 {w : World} {b : Nat} {s : St} {r : Value} (h : Ref9 w b s r) (ok : s.Ok) (i : Int) : Calls Try.prog 49 #[r, .int .i64 i] w (RefB9 w (s.has i)) := by
  obtain ⟨vV, vI, vK, rfl, hV, hI, hK⟩ := h
  obtain ⟨AV, cV, rfl⟩ := hV.shape
  obtain ⟨AI, cI, rfl⟩ := hI.shape
  obtain ⟨AK, cK, rfl⟩ := hK.shape
  rw [rV_len, rI_len, rK_len]
  have hcap := ok.cap
  have hb : Below w.heap.size w (w.alloc (.cells #[.slice AV s.most cV, .slice AI s.most cI, .slice AK s.B.length cK, .int .i64 (s.T.length : Nat)] 60)) := (Below.refl _ _).alloc (Nat.le_refl _) _
  have HB := Lib.hid hb
  by_cases h0 : i < 0
  · have e := has_not ok (i := i) (.inl h0)
    rw [e]
    have hd : decide (0 ≤ i) = false := by simp; omega
    clear e hb hV hI hK
    go_enter Try.func49, Try.ntmps49
    go_wp2_with fail
    go_ret
    exact ⟨rfl, HB.out⟩
  · by_cases h1 : (s.most : Int) ≤ i
    · have e := has_not ok (i := i) (.inr h1)
      rw [e]
      have hd : decide (0 ≤ i) = true := by simp; omega
      have hd2 : decide (i < (s.most : Int)) = false := by simp; omega
      clear e hb hV hI hK
      go_enter Try.func49, Try.ntmps49
      go_wp2_with fail
      go_ret
      exact ⟨rfl, HB.out⟩
    · obtain ⟨k, rfl⟩ := Int.eq_ofNat_of_zero_le (show 0 ≤ i by omega)
      have hk : k < s.most := by omega
      obtain ⟨g, rfl, _, hc⟩ := (hI.below hb).cellAt (by rw [rI_len]) k (by rw [rI_len]; exact hk)
      rw [rI_get hk] at hc
      obtain ⟨q, hq⟩ : ∃ q, q = s.has (k : Int) := ⟨_, rfl⟩
      rw [← hq] at hc ⊢
      have g1 : (0 : Int) ≤ (k : Int) := by omega
      have g2 : (k : Int) < (s.most : Int) := by omega
      clear hq hb hV hI hK
      go_enter Try.func49, Try.ntmps49
      go_wp2_with fail
      go_ret
      exact ⟨rfl, HB.out⟩

theorem has_yes {s : St} (ok : s.Ok) {i : Int} (h : s.has i = true) : ∃ k : Nat, i = k ∧ k < s.most := by
  have h1 := St.has_lt h
  have := ok.le
  exact ⟨i.toNat, by omega, by omega⟩

def RefAt (w : World) (x : Int) (b : Bool) (e : Ending) (w' : World) : Prop := e = .returned (.tuple #[.int .i64 x, .bool b]) ∧ Below w.heap.size w w'

set_option maxHeartbeats 1000000 in
theorem refat9 {w : World} {b : Nat} {s : St} {r : Value} (h : Ref9 w b s r) (ok : s.Ok) (i : Int) : Calls Try.prog 50 #[r, .int .i64 i] w (RefAt w (s.get i) (s.has i)) := by
  have h' := h
  obtain ⟨vV, vI, vK, rfl, hV, hI, hK⟩ := h
  obtain ⟨AV, cV, rfl⟩ := hV.shape
  obtain ⟨AI, cI, rfl⟩ := hI.shape
  obtain ⟨AK, cK, rfl⟩ := hK.shape
  rw [rV_len, rI_len, rK_len] at *
  have hcap := ok.cap
  have hb : Below w.heap.size w (w.alloc (.cells #[.slice AV s.most cV, .slice AI s.most cI, .slice AK s.B.length cK, .int .i64 (s.T.length : Nat)] 60)) := (Below.refl _ _).alloc (Nat.le_refl _) _
  have HB := Lib.hid hb
  have R := Lib.hid (h'.below hb)
  have OK := Lib.hid ok
  have T0 := Lib.hid (heap_alloc_new w (.cells #[.slice AV s.most cV, .slice AI s.most cI, .slice AK s.B.length cK, .int .i64 (s.T.length : Nat)] 60))
  cases hh : s.has i with
  | false =>
    have e := get_no hh
    rw [e]
    have HH := Lib.hid hh
    clear e hb hV hI hK h' ok hh
    go_enter Try.func50, Try.ntmps50
    go_wp2_with fail
    with_reducible refine (refhas9 R.out OK.out i).mono ?_
    rintro e w2 ⟨rfl, b2⟩
    rw [HH.out]
    have B2 := Lib.hid (HB.out.trans (b2.mono HB.out.size))
    clear b2
    go_wp2_with fail
    go_ret2
    exact ⟨rfl, B2.out⟩
  | true =>
    obtain ⟨k, rfl, hk⟩ := has_yes ok hh
    obtain ⟨g, rfl, _, hc⟩ := (hV.below hb).cellAt rfl k (by rw [rV_len]; exact hk)
    rw [rV_get hk] at hc
    obtain ⟨q, hq⟩ : ∃ q, q = s.get (k : Int) := ⟨_, rfl⟩
    rw [← hq] at hc ⊢
    have HC := Lib.hid hc
    have HH := Lib.hid hh
    have g1 : (0 : Int) ≤ (k : Int) := by omega
    have g2 : (k : Int) < (s.most : Int) := by omega
    clear hq hb hV hI hK h' ok hh hc
    go_enter Try.func50, Try.ntmps50
    go_wp2_with fail
    with_reducible refine (refhas9 R.out OK.out k).mono ?_
    rintro e w2 ⟨rfl, b2⟩
    rw [HH.out]
    have B2 := Lib.hid (HB.out.trans (b2.mono HB.out.size))
    have hc := (b2.cell (World.block_lt_of_cell? _ _ HC.out)).trans HC.out
    obtain ⟨k0, k1, k2, k3⟩ := four_of ((b2.block _ (lt_of_block T0.out)).trans T0.out)
    clear b2
    go_wp2_with fail
    go_ret2
    exact ⟨rfl, B2.out⟩

/-! ### those that are used -/
theorem ok_used {s : St} (ok : s.Ok) : s.used = ((List.range s.most).filter fun i : Nat => s.has i).map Int.ofNat := by
  have e : ∀ n, n ≤ s.most → s.T.length ≤ n → s.used = ((List.range n).filter fun i : Nat => s.has i).map Int.ofNat := by
    intro n _ hn
    obtain ⟨d, rfl⟩ := Nat.le.dest hn
    clear hn
    unfold St.used
    congr 1
    induction d with
    | zero =>
      refine List.filter_congr fun x _ => ?_
      simp [St.has]
    | succ d ih =>
      rw [ih (by omega), ← Nat.add_assoc, List.range_succ, List.filter_append]
      have : s.has ((s.T.length + d : Nat) : Int) = false := by
        cases hh : s.has ((s.T.length + d : Nat) : Int) with
        | false => rfl
        | true => have := St.has_lt hh; omega
      simp only [List.filter_cons, this, List.filter_nil]
      simp
  exact e s.most (Nat.le_refl _) ok.le

def useN (s : St) (k : Nat) : List Int := ((List.range k).filter fun i : Nat => s.has i).map Int.ofNat
theorem useN_yes {s : St} {k : Nat} (h : s.has k = true) : useN s (k + 1) = useN s k ++ [(k : Int)] := by simp [useN, List.range_succ, List.filter_append, h]
theorem useN_no {s : St} {k : Nat} (h : s.has k = false) : useN s (k + 1) = useN s k := by simp [useN, List.range_succ, List.filter_append, h]
theorem useN_le (s : St) (k : Nat) : (useN s k).length ≤ k := by
  unfold useN; rw [List.length_map]; exact Nat.le_trans (List.length_filter_le _ _) (by simp)

def URel (w : World) (s : St) (v i : Value) (wr : World) : Prop :=
  ∃ j : Nat, j ≤ s.most ∧ i = .int .i64 j ∧ Has wr w.heap.size v (useN s j) ∧ Below w.heap.size w wr

set_option maxHeartbeats 1000000 in
theorem refused9 {w : World} {b : Nat} {s : St} {r : Value} (h : Ref9 w b s r) (ok : s.Ok) : Calls Try.prog 51 #[r] w (FreshL w s.used) := by
  rw [ok_used ok]
  obtain ⟨vV, vI, vK, rfl, hV, hI, hK⟩ := h
  obtain ⟨AV, cV, rfl⟩ := hV.shape
  obtain ⟨AI, cI, rfl⟩ := hI.shape
  obtain ⟨AK, cK, rfl⟩ := hK.shape
  rw [rV_len, rI_len, rK_len] at *
  have hcap := ok.cap
  have hb : Below w.heap.size w (w.alloc (.cells #[.slice AV s.most cV, .slice AI s.most cI, .slice AK s.B.length cK, .int .i64 (s.T.length : Nat)] 60)) := (Below.refl _ _).alloc (Nat.le_refl _) _
  have HB := Lib.hid hb
  have HI := Lib.hid (hI.below hb)
  have T0 := Lib.hid (heap_alloc_new w (.cells #[.slice AV s.most cV, .slice AI s.most cI, .slice AK s.B.length cK, .int .i64 (s.T.length : Nat)] 60))
  have OK := Lib.hid ok
  obtain ⟨k0, k1, k2, k3⟩ := four_of T0.out
  clear hb hV hI hK ok
  go_enter Try.func51, Try.ntmps51
  go_wp2_with fail
  obtain ⟨w1, hw1⟩ : ∃ w1, w1 = w.alloc (.cells #[.slice AV s.most cV, .slice AI s.most cI, .slice AK s.B.length cK, .int .i64 (s.T.length : Nat)] 60) := ⟨_, rfl⟩
  obtain ⟨g0, hg0⟩ : ∃ g, g = w.heap.size := ⟨_, rfl⟩
  rw [← hw1] at HI HB T0 ⊢
  rw [← hg0] at T0 ⊢
  clear hw1 k0 k1 k2 k3
  have HG := Lib.hid hg0
  clear hg0
  go_loopw [3, 4] (fun v i wr => URel w1 s v i wr) (fun _ i _ => s.most - (intOf i).toNat)
  case atStart => exact ⟨0, Nat.zero_le _, rfl, Has.nil _ _, Below.refl _ _⟩
  case round =>
    obtain ⟨j, hj, rfl, hown, hbel⟩ := hrel
    have HO := Lib.hid hown
    have HL := Lib.hid hbel
    obtain ⟨k0, k1, k2, k3⟩ := four_of ((hbel.block _ (lt_of_block T0.out)).trans T0.out)
    by_cases hlt : j < s.most
    · obtain ⟨g, rfl, _, hc⟩ := (HI.out.below hbel).cellAt rfl j (by rw [rI_len]; exact hlt)
      rw [rI_get hlt] at hc
      have g1 : (0 : Int) ≤ (j : Int) := by omega
      have g2 : (j : Int) < (s.most : Int) := by omega
      have hle := useN_le s j
      clear hown hbel
      cases hh : s.has (j : Int) with
      | false =>
        rw [hh] at hc
        have HH := Lib.hid hh
        clear hh
        go_wp2_with fail
        go_roundw
        case rel => exact ⟨j + 1, hlt, by go_num, by rw [useN_no HH.out]; exact HO.out, HL.out⟩
        case measure => simp [intOf]; omega
      | true =>
        rw [hh] at hc
        have HH := Lib.hid hh
        clear hh
        obtain ⟨Av, cv, rfl⟩ := HO.out.shape
        have HW := Lib.hid (show (useN s j).length ≤ 1000000 by omega)
        have HS := Lib.hid HL.out.size
        clear hle
        go_wp2_with (at_builtin; refine app_int rfl w1.heap.size rfl (.tmp 17) (.tmp 19) 22 rfl Try.underlying22 Try.info3 (.slice Av _ cv) (useN s j) _ rfl rfl HO.out HS.out HW.out ?_; intro v1 w2 hown hg hat; have HN := Lib.hid hown; have HGG := Lib.hid hg; clear hown hg hat)
        go_roundw
        case rel => exact ⟨j + 1, hlt, by go_num, by rw [useN_yes HH.out]; exact HN.out, HL.out.grown HGG.out HS.out (fun g hg' => (HO.out.ge g hg').1)⟩
        case measure => simp [intOf]; omega
    · obtain rfl : j = s.most := by omega
      clear hown hbel
      go_wp2_with fail
      go_ret
      exact ⟨_, rfl, HO.out.mono (HB.out.size), HB.out.trans (HL.out.mono HB.out.size)⟩

end Go.Proofs.Ytjcmbddiffebhaa
