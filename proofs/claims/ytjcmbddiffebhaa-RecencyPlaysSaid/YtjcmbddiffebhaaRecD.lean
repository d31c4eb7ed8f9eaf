/-
  The methods of recency.List, each said of the list of numbers that stands there.
-/
import Derived.Test.YtjcmbddiffebhaaRecC
namespace Go.Proofs.Ytjcmbddiffebhaa
open Go.RowKit

/-- what a touch leaves -/
def tch (m : Nat) (L : List Int) (i : Int) : List Int := if 0 ≤ i ∧ i < m then i :: wo L i else L
/-- is a number one that may be there -/
def mayB (m : Nat) (i : Int) : Bool := decide (0 ≤ i ∧ i < m)
def inB (L : List Int) (i : Int) : Bool := decide (i ∈ L)
/-- the last one, 0 if there is none -/
def lastI (L : List Int) : Int := L.getLastD 0
def someB (L : List Int) : Bool := !L.isEmpty

section
variable {w w' : World} {lo m : Nat} {L : List Int}

theorem Rec.le (h : Rec w lo m L) : m ≤ 1024 ∧ L.length ≤ m ∧ Good m L := by
  obtain ⟨bl, bi, ah, bh, is, hp, hl, hc, hi, g⟩ := h
  exact ⟨hl.hm, good_le m L g, g⟩

theorem Rec.lt (h : Rec w lo m L) : lo + 3 ≤ w.heap.size := by
  obtain ⟨bl, bi, ah, bh, is, hp, hl, hc, hi, g⟩ := h
  have := World.block_lt_of_cell? _ ⟨lo + 2, 2, none⟩ hl.c2
  simp at this
  omega

theorem Rec.only (h : Rec w lo m L) {S : Nat → Prop} (ho : Only S w w') (hs : ∀ k, In3 lo k → ¬ S k) : Rec w' lo m L := by
  obtain ⟨bl, bi, ah, bh, is, hp, hl, hc, hi, g⟩ := h
  refine ⟨bl, bi, ah, bh, is, hp, hl.only ho (hs _ ⟨by omega, by omega⟩) (hs _ ?_) (hs _ ?_), hc, hi, g⟩ <;> unfold In3 <;> omega

theorem Rec.below (h : Rec w lo m L) (hb : Below w.heap.size w w') : Rec w' lo m L := h.only (S := fun _ => False) (Only.ofBelow hb) (fun _ _ h => h)
theorem Rec.drew (h : Rec w lo m L) : Rec w.drew lo m L := by
  obtain ⟨bl, bi, ah, bh, is, hp, hl, hc, hi, g⟩ := h
  exact ⟨bl, bi, ah, bh, is, hp, hl.drew, hc, hi, g⟩
theorem Rec.drewN (h : Rec w lo m L) (n : Nat) : Rec (w.drewN n) lo m L := by
  obtain ⟨bl, bi, ah, bh, is, hp, hl, hc, hi, g⟩ := h
  exact ⟨bl, bi, ah, bh, is, hp, hl.drewN n, hc, hi, g⟩

theorem in3_of {bl bi : Nat} (hp : (bl = lo ∧ bi = lo + 1) ∨ (bl = lo + 1 ∧ bi = lo)) : ∀ k, OfList (lo + 2) bl bi k → In3 lo k := by
  intro k hk
  unfold OfList at hk
  unfold In3
  omega

def TouchPost (w : World) (lo m : Nat) (L : List Int) (i : Int) (e : Ending) (w' : World) : Prop :=
  e = .returned (.bool (mayB m i)) ∧ Rec w' lo m (tch m L i) ∧ Only (In3 lo) w w'

theorem touch_rec (h : Rec w lo m L) (i : Int) : Calls Try.prog 15 #[.pointer (some ⟨lo + 2, 0, none⟩), .int .i64 i] w (TouchPost w lo m L i) := by
  have hle := h.le
  obtain ⟨bl, bi, ah, bh, is, hp, hl, hc, hi, g⟩ := h
  by_cases hr : 0 ≤ i ∧ i < m
  · obtain ⟨k, rfl⟩ := Int.eq_ofNat_of_zero_le hr.1
    have hk : k < m := by omega
    have e1 : mayB m k = true := by simp [mayB, hk]
    have e2 : tch m L k = (k : Int) :: wo L k := by unfold tch; rw [if_pos hr]
    by_cases hx : (k : Int) ∈ L
    · obtain ⟨c1, x0, x1, y0, y1⟩ := chain_cut g hc hx
      obtain ⟨x, ex⟩ := Int.eq_ofNat_of_zero_le x0
      obtain ⟨y, ey⟩ := Int.eq_ofNat_of_zero_le y0
      rw [ex, ey] at c1
      have f0 : upd bh x y m = nth m (wo L k) 1 := (c1 0 (by omega)).1
      have fr := nth_range (wo_good g k) 1
      obtain ⟨f, ef⟩ := Int.eq_ofNat_of_zero_le fr.1
      have hn : ((k : Int) ∉ wo L k) := fun h => (wo_sub.1 h).2 rfl
      have c2 := chain_push (wo_good g k) c1 hn (by omega)
      rw [f0, ef] at c2
      refine (touch_old hl k x y f hk (by omega) (by omega) (by omega) ex ey (by rw [f0, ef]) (by rw [hi k hk]; simpa using hx)).mono fun e w' ⟨he, h1, h2, _⟩ => ?_
      refine ⟨by rw [he, e1], ?_, h2.mono (in3_of hp)⟩
      rw [e2]
      refine ⟨bl, bi, _, _, is, hp, ?_, c2, ?_, push_good g _ (by omega) (by omega)⟩
      · have hlen := wo_len g.1 hx
        have : (L.length : Int) = (((k : Int) :: wo L k).length : Int) := by rw [List.length_cons]; omega
        rw [← this]; exact h1
      · intro j hj
        rw [hi j hj]
        simp only [List.mem_cons, wo_sub, decide_eq_decide]
        constructor
        · intro h; by_cases e : (j : Int) = k
          · exact .inl e
          · exact .inr ⟨h, e⟩
        · rintro (h | h)
          · rw [h]; exact hx
          · exact h.1
    · have f0 : bh m = nth m L 1 := (hc 0 (by omega)).1
      have fr := nth_range g 1
      obtain ⟨f, ef⟩ := Int.eq_ofNat_of_zero_le fr.1
      have c2 := chain_push g hc hx (by omega)
      rw [f0, ef] at c2
      refine (touch_new hl k f hk (by omega) (by rw [f0, ef]) (by rw [hi k hk]; simpa using hx) (by omega) (by omega)).mono fun e w' ⟨he, h1, h2, _⟩ => ?_
      refine ⟨by rw [he, e1], ?_, h2.mono (in3_of hp)⟩
      rw [e2]
      have hg := push_good g k (by omega) (by omega)
      rw [wo_not hx] at hg ⊢
      refine ⟨bl, bi, _, _, updB is k true, hp, ?_, c2, ?_, hg⟩
      · have : (L.length : Int) + 1 = (((k : Int) :: L).length : Int) := by rw [List.length_cons]; omega
        rw [← this]; exact h1
      · intro j hj
        unfold updB
        by_cases e : (j : Int) = k
        · rw [if_pos e]; simp [e]
        · rw [if_neg e, hi j hj]; simp; omega
  · refine (touch_no (some ⟨bi, 0, none⟩) i hl.hm (by omega) hl.c1).mono fun e w' ⟨he, hw⟩ => ?_
    subst hw
    refine ⟨by rw [he]; simp [mayB]; omega, ?_, Only.refl _ _⟩
    unfold tch
    rw [if_neg hr]
    exact ⟨bl, bi, ah, bh, is, hp, hl, hc, hi, g⟩

def DropPost (w : World) (lo m : Nat) (L : List Int) (i : Int) (e : Ending) (w' : World) : Prop :=
  e = .returned (.bool (inB L i)) ∧ Rec w' lo m (wo L i) ∧ Only (In3 lo) w w'

theorem drop_rec (h : Rec w lo m L) (i : Int) : Calls Try.prog 33 #[.pointer (some ⟨lo + 2, 0, none⟩), .int .i64 i] w (DropPost w lo m L i) := by
  have hle := h.le
  have h' := h
  obtain ⟨bl, bi, ah, bh, is, hp, hl, hc, hi, g⟩ := h
  by_cases hx : i ∈ L
  · have hr := g.2 i hx
    obtain ⟨k, rfl⟩ := Int.eq_ofNat_of_zero_le hr.1
    have hk : k < m := by omega
    obtain ⟨c1, x0, x1, y0, y1⟩ := chain_cut g hc hx
    obtain ⟨x, ex⟩ := Int.eq_ofNat_of_zero_le x0
    obtain ⟨y, ey⟩ := Int.eq_ofNat_of_zero_le y0
    rw [ex, ey] at c1
    have hlen := wo_len g.1 hx
    refine (drop_low hl k x y hk (by omega) (by omega) ex ey (by rw [hi k hk]; simpa using hx) (by omega) (by omega)).mono fun e w' ⟨he, h1, h2, _⟩ => ?_
    refine ⟨by rw [he]; simp [inB, hx], ⟨bl, bi, _, _, updB is k false, hp, ?_, c1, ?_, wo_good g _⟩, h2.mono (in3_of hp)⟩
    · have : (L.length : Int) - 1 = ((wo L k).length : Int) := by omega
      rw [← this]; exact h1
    · intro j hj
      unfold updB
      by_cases e : (j : Int) = k
      · rw [if_pos e]; simp [e, wo_sub]
      · rw [if_neg e, hi j hj]; simp [wo_sub]; omega
  · have e1 : inB L i = false := by simp [inB, hx]
    have e2 := wo_not hx
    by_cases hr : 0 ≤ i ∧ i < m
    · obtain ⟨k, rfl⟩ := Int.eq_ofNat_of_zero_le hr.1
      refine (drop_out hl k (by omega) (by rw [hi k (by omega)]; simpa using hx)).mono fun e w' ⟨he, hw⟩ => ?_
      subst hw
      exact ⟨by rw [he, e1], by rw [e2]; exact h', Only.refl _ _⟩
    · refine (drop_no (some ⟨bi, 0, none⟩) i hl.hm (by omega) hl.c1).mono fun e w' ⟨he, hw⟩ => ?_
      subst hw
      exact ⟨by rw [he, e1], by rw [e2]; exact h', Only.refl _ _⟩

theorem has_rec (h : Rec w lo m L) (i : Int) : Calls Try.prog 16 #[.pointer (some ⟨lo + 2, 0, none⟩), .int .i64 i] w fun e w' => e = .returned (.bool (inB L i)) ∧ w = w' := by
  obtain ⟨bl, bi, ah, bh, is, hp, hl, hc, hi, g⟩ := h
  by_cases hr : 0 ≤ i ∧ i < m
  · obtain ⟨k, rfl⟩ := Int.eq_ofNat_of_zero_le hr.1
    have := has_low hl k (by omega)
    rw [hi k (by omega)] at this
    exact this
  · have e1 : inB L i = false := by
      simp only [inB, decide_eq_false_iff_not]
      exact fun hx => hr (g.2 i hx)
    rw [e1]
    exact has_no (some ⟨bi, 0, none⟩) i hl.hm (by omega) hl.c1

theorem len_rec (h : Rec w lo m L) : Calls Try.prog 31 #[.pointer (some ⟨lo + 2, 0, none⟩)] w fun e w' => e = .returned (.int .i64 L.length) ∧ w = w' := by
  obtain ⟨bl, bi, ah, bh, is, hp, hl, hc, hi, g⟩ := h
  exact len_any _ _ w hl.c2

theorem last_rec (h : Rec w lo m L) : Calls Try.prog 29 #[.pointer (some ⟨lo + 2, 0, none⟩)] w fun e w' => e = .returned (.tuple #[.int .i64 (lastI L), .bool (someB L)]) ∧ ∃ q, w' = w.drewN q := by
  obtain ⟨bl, bi, ah, bh, is, hp, hl, hc, hi, g⟩ := h
  rcases List.eq_nil_or_concat L with rfl | ⟨L0, x, rfl⟩
  · exact (last_none hl.c2).mono fun e w' ⟨he, hw⟩ => ⟨he, 0, by subst hw; rfl⟩
  · rw [List.concat_eq_append] at *
    have ea := chain_last hc
    have e1 : nth m (L0 ++ [x]) (L0 ++ [x]).length = x := by
      rw [List.length_append, List.length_singleton, nth_get m _ _ (by simp)]; simp
    rw [e1] at ea
    have hx := g.2 x (by simp)
    obtain ⟨k, rfl⟩ := Int.eq_ofNat_of_zero_le hx.1
    refine (last_low hl (by simp <;> omega) k ea).mono fun e w' ⟨he, hw⟩ => ⟨?_, hw⟩
    rw [he]
    simp [lastI, someB, List.getLastD_eq_getLast?]

theorem order_rec (h : Rec w lo m L) : Calls Try.prog 18 #[.pointer (some ⟨lo + 2, 0, none⟩)] w (Fresh w L) := by
  have hle := h.le
  obtain ⟨bl, bi, ah, bh, is, hp, hl, hc, hi, g⟩ := h
  exact order_low hl (fun j hj => (hc j (by omega)).1) g.2 (by omega)
end
end Go.Proofs.Ytjcmbddiffebhaa
