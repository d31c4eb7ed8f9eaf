/-
  The methods of slots.Slots[int], each said of the abstract state; and kedgelaw09.awake.
-/
import Derived.Test.YtjcmbddiffebhaaSloD
namespace Go.Proofs.Ytjcmbddiffebhaa
open Go.RowKit

/-- what a call on the Slots at p leaves alone: all below p, and every block that holds no places -/
structure SKept (p : Nat) (w w' : World) : Prop where
  low : Below p w w'
  rows : ∀ (k : Nat) (c : Array Value) (t : TypeId), w.heap[k]? = some (Obj.cells c t (0, 0)) → t ≠ 72 → t ≠ 78 → w'.heap[k]? = w.heap[k]?

section
variable {w w' : World} {p : Nat} {s : St}

theorem SKept.of {v : Value} {P : List Pl} {most : Nat} {free n : Int} (h : SLow w p v P most free n) (ho : Only (Foot p v) w w') : SKept p w w' := by
  have hp := lt_of_block h.blk
  refine ⟨⟨ho.os, ho.tape, ho.output, ho.size, fun k hk => ho.block k (by omega) ?_⟩, fun k c t hk h1 h2 => ho.block k (lt_of_block hk) ?_⟩
  · rintro (e | e)
    · omega
    · have := (World.ownsRow.lt h.own k e).1; omega
  · rintro (e | e)
    · subst e
      rw [h.blk] at hk
      injection hk with hk
      injection hk with _ ht
      exact h1 ht.symm
    · rcases h.own.2 with ⟨hv, _⟩ | ⟨g, cap, cur, hv, _, hh, _⟩
      · rw [hv] at e; simp [Value.ownBlock] at e
      · rw [hv] at e
        have : g = k := by simpa [Value.ownBlock] using e
        subst this
        rw [hh] at hk
        injection hk with hk
        injection hk with _ ht
        exact h2 ht.symm

theorem SKept.refl (p : Nat) (w : World) : SKept p w w := ⟨Below.refl _ _, fun _ _ _ _ _ _ => rfl⟩
theorem SKept.drewN (p : Nat) (w : World) (q : Nat) : SKept p w (w.drewN q) := ⟨⟨rfl, rfl, rfl, Nat.le_refl _, fun _ _ => rfl⟩, fun _ _ _ _ _ _ => rfl⟩

theorem SKept.owns (h : SKept p w w') {base : Nat} {e : TypeId} {size : Nat} {v : Value} {n : Nat} {xs : List Value} (ho : w.ownsRow base e size v n xs) (h1 : e ≠ 72) (h2 : e ≠ 78) : w'.ownsRow base e size v n xs := by
  obtain ⟨g1, g2⟩ := ho
  refine ⟨g1, ?_⟩
  rcases g2 with g2 | ⟨g, cap, cur, hv, hg, hh, r⟩
  · exact Or.inl g2
  · exact Or.inr ⟨g, cap, cur, hv, hg, by rw [h.rows g _ _ hh h1 h2]; exact hh, r⟩
theorem SKept.has (h : SKept p w w') {base : Nat} {v : Value} {L : List Int} (ho : Has w base v L) : Has w' base v L := h.owns ho (by decide) (by decide)

theorem Slo.only {S : Nat → Prop} (h : Slo w p s) (ho : Only S w w') (h1 : ∀ (k : Nat) (c : Array Value) (t : TypeId), w.heap[k]? = some (Obj.cells c t (0, 0)) → S k → t ≠ 72 ∧ t ≠ 78) : Slo w' p s := by
  obtain ⟨v, P, hl, hf, ok⟩ := h
  refine ⟨v, P, hl.only ho ?_, hf, ok⟩
  rintro k (e | e) hs
  · subst e; exact (h1 _ _ _ hl.blk hs).1 rfl
  · rcases hl.own.2 with ⟨hv, _⟩ | ⟨g, cap, cur, hv, _, hh, _⟩
    · rw [hv] at e; simp [Value.ownBlock] at e
    · rw [hv] at e
      have : g = k := by simpa [Value.ownBlock] using e
      subst this
      exact (h1 _ _ _ hh hs).2 rfl
theorem Slo.below (h : Slo w p s) (hb : Below w.heap.size w w') : Slo w' p s := h.only (S := fun _ => False) (Only.ofBelow hb) (fun _ _ _ _ h => h.elim)
theorem Slo.drewN (h : Slo w p s) (q : Nat) : Slo (w.drewN q) p s := by
  obtain ⟨v, P, hl, hf, ok⟩ := h
  exact ⟨v, P, hl.drewN q, hf, ok⟩
theorem Slo.ok (h : Slo w p s) : s.Ok := by
  obtain ⟨v, P, hl, hf, ok⟩ := h
  exact ok
theorem Slo.lt (h : Slo w p s) : p < w.heap.size := by
  obtain ⟨v, P, hl, hf, ok⟩ := h
  exact lt_of_block hl.blk

/-- a list of numbers that is written does not touch the places -/
theorem Slo.setHas (h : Slo w p s) {base : Nat} {v : Value} {L : List Int} (ho : Has w base v L) {row : Option Nat} {w1 : World} (hg : w.grownBy w1 row) (hr : row = none ∨ row = v.ownBlock) : Slo w1 p s := by
  refine h.only (S := fun k => row = some k) ((Only.refl _ w).grown hg (fun k hk => .inl hk)) fun k c t hk hs => ?_
  rcases hr with hr | hr
  · rw [hr] at hs; cases hs
  · rw [hr] at hs
    rcases ho.2 with ⟨hv, _⟩ | ⟨g, cap, cur, hv, _, hh, _⟩
    · rw [hv] at hs; simp [Value.ownBlock] at hs
    · rw [hv] at hs
      have : g = k := by simpa [Value.ownBlock] using hs
      subst this
      rw [hh] at hk
      injection hk with hk
      injection hk with _ ht
      rw [← ht]; exact ⟨by decide, by decide⟩

def takeI (s : St) : Int := if s.full then 0 else s.spot

def TakePost (w : World) (p : Nat) (s : St) (x : Int) (e : Ending) (w' : World) : Prop :=
  e = .returned (.tuple #[.int .i64 (takeI s), .bool (!s.full)]) ∧ Slo w' p (s.take x) ∧ SKept p w w'

theorem take_slo (h : Slo w p s) (x : Int) : Calls Try.prog 21 #[.pointer (some ⟨p, 0, none⟩), .int .i64 x] w (TakePost w p s x) := by
  have h' := h
  obtain ⟨v, P, hl, hf, ok⟩ := h
  have hcap := ok.cap
  by_cases hfull : s.full = true
  · have hn : s.most ≤ s.len := by simpa [St.full] using hfull
    refine (take_full x hl.c1 hl.c3 (by omega)).mono fun e w' ⟨he, q, hw⟩ => ?_
    subst hw
    refine ⟨by rw [he]; simp [takeI, hfull], ?_, SKept.drewN _ _ _⟩
    have : s.take x = s := by simp [St.take, hfull]
    rw [this]
    exact h'.drewN q
  · have hn : s.len < s.most := by simpa [St.full] using hfull
    have hf0 : s.full = false := by simpa using hfull
    have okt := ok.take x
    cases hb : s.B with
    | nil =>
      have h0 : s.B.length = 0 := by rw [hb]; rfl
      have hlen : s.len = s.T.length := by unfold St.len; omega
      have hfr : nxt s.B 0 = -1 := by rw [hb]; rfl
      have htake : s.take x = ⟨s.T ++ [some x], [], s.most⟩ := by unfold St.take; rw [if_neg hfull]; split <;> simp_all
      rw [hfr] at hl
      refine (take_fresh hl x rfl (by omega) (by omega) (by rw [hf.1]; omega)).mono fun e w' ⟨he, v', h1, h2, _⟩ => ?_
      refine ⟨by rw [he]; simp [takeI, hf0, St.spot, hb, hf.1], ⟨v', P ++ [⟨x, true, 0⟩], ?_, ?_, okt⟩, SKept.of hl h2⟩
      · rw [htake]
        have e1 : ((s.len : Nat) : Int) + 1 = ((St.len ⟨s.T ++ [some x], [], s.most⟩ : Nat) : Int) := by simp [St.len, h0]
        rw [e1] at h1; exact h1
      · rw [htake]; exact fit_snoc hf x
    | cons b r =>
      have hbm : b ∈ s.B := by rw [hb]; simp
      have hlt := ((ok.fr b).1 hbm).1
      have hfr : nxt s.B 0 = b := by rw [hb]; rfl
      have hnx := hf.2.2 0 b (by rw [hb]; rfl)
      have htake : s.take x = ⟨s.T.set b (some x), r, s.most⟩ := by unfold St.take; rw [if_neg hfull]; split <;> simp_all
      have hbl := ok.blen
      rw [hb] at hbl
      simp only [List.length_cons] at hbl
      refine (take_reuse hl b x hfr (by rw [hf.1]; omega) (by omega) (by omega)).mono fun e w' ⟨he, h1, h2⟩ => ?_
      refine ⟨by rw [he]; simp [takeI, hf0, St.spot, hb], ⟨v, P.set b ⟨x, true, 0⟩, ?_, ?_, okt⟩, SKept.of hl h2⟩
      · rw [htake]
        have e1 : ((s.len : Nat) : Int) + 1 = ((St.len ⟨s.T.set b (some x), r, s.most⟩ : Nat) : Int) := by simp only [St.len, hb, List.length_set, List.length_cons]; omega
        have e2 : (P.getD b z0).next = nxt r 0 := by rw [hnx, hb]; rfl
        rw [e1, e2] at h1; exact h1
      · rw [htake]; exact fit_reuse hf ok hb x

def GivePost (w : World) (p : Nat) (s : St) (i : Int) (e : Ending) (w' : World) : Prop :=
  e = .returned (.bool (s.has i)) ∧ Slo w' p (s.give i) ∧ SKept p w w'
def SwapPost (w : World) (p : Nat) (s : St) (i x : Int) (e : Ending) (w' : World) : Prop :=
  e = .returned (.bool (s.has i)) ∧ Slo w' p (s.swap i x) ∧ SKept p w w'

theorem no_of {P : List Pl} (hf : Fit s P) {i : Int} (hh : s.has i = false) : i < 0 ∨ (P.length : Int) ≤ i ∨ (P.getD i.toNat z0).used = false := by
  by_cases h0 : i < 0
  · exact .inl h0
  · by_cases h1 : (P.length : Int) ≤ i
    · exact .inr (.inl h1)
    · refine .inr (.inr ?_)
      rw [(hf.2.1 i.toNat (by have := hf.1; omega)).2]
      simp only [St.has, Bool.and_eq_false_iff, decide_eq_false_iff_not] at hh
      rcases hh with h | h
      · omega
      · exact h

theorem yes_of {P : List Pl} (hf : Fit s P) {i : Int} (hh : s.has i = true) : ∃ k : Nat, i = k ∧ i.toNat = k ∧ k < P.length ∧ (P.getD k z0).used = true ∧ (P.getD k z0).x = s.get i := by
  obtain ⟨h0, h1, h2⟩ := St.has_lt hh
  obtain ⟨k, rfl⟩ := Int.eq_ofNat_of_zero_le h0
  have e : ((k : Int)).toNat = k := by omega
  rw [e] at h1 h2
  obtain ⟨f1, f2⟩ := hf.2.1 k h1
  refine ⟨k, rfl, e, by rw [hf.1]; exact h1, by rw [f2, h2], ?_⟩
  rw [f1]
  unfold St.get
  rw [if_pos h0, e]

theorem get_no {i : Int} (hh : s.has i = false) : s.get i = 0 := by
  unfold St.get
  split
  · rename_i h0
    simp only [St.has, Bool.and_eq_false_iff, decide_eq_false_iff_not] at hh
    rcases hh with h | h
    · omega
    · cases hx : s.T.getD i.toNat none with
      | none => rfl
      | some y => rw [hx] at h; simp at h
  · rfl

theorem give_slo (h : Slo w p s) (i : Int) : Calls Try.prog 22 #[.pointer (some ⟨p, 0, none⟩), .int .i64 i] w (GivePost w p s i) := by
  have h' := h
  obtain ⟨v, P, hl, hf, ok⟩ := h
  have hcap := ok.cap
  have hle := ok.le
  cases hh : s.has i with
  | false =>
    refine (give_no hl i (no_of hf hh)).mono fun e w' ⟨he, hw⟩ => ?_
    subst hw
    refine ⟨by rw [he, hh], ?_, SKept.refl _ _⟩
    have : s.give i = s := by simp [St.give, hh]
    rw [this]; exact h'
  | true =>
    obtain ⟨k, rfl, ek, hk, hu, _⟩ := yes_of hf hh
    have hgl := ok.give_len hh
    have okg := ok.give k
    refine (give_yes hl k hk hu (by omega) (by unfold St.len; omega)).mono fun e w' ⟨he, h1, h2⟩ => ?_
    have hg : s.give k = ⟨s.T.set k none, k :: s.B, s.most⟩ := by unfold St.give; rw [if_pos hh, ek]
    refine ⟨by rw [he, hh], ⟨v, P.set k ⟨0, false, nxt s.B 0⟩, ?_, ?_, okg⟩, SKept.of hl h2⟩
    · rw [hg]
      have e1 : ((s.len : Nat) : Int) - 1 = ((St.len ⟨s.T.set k none, k :: s.B, s.most⟩ : Nat) : Int) := by simp only [St.len, List.length_set, List.length_cons]; omega
      rw [e1] at h1; exact h1
    · rw [hg]
      have := fit_give hf ok hh
      rw [ek] at this; exact this

theorem swap_slo (h : Slo w p s) (i x : Int) : Calls Try.prog 38 #[.pointer (some ⟨p, 0, none⟩), .int .i64 i, .int .i64 x] w (SwapPost w p s i x) := by
  have h' := h
  obtain ⟨v, P, hl, hf, ok⟩ := h
  cases hh : s.has i with
  | false =>
    refine (swap_no hl i x (no_of hf hh)).mono fun e w' ⟨he, hw⟩ => ?_
    subst hw
    refine ⟨by rw [he, hh], ?_, SKept.refl _ _⟩
    have : s.swap i x = s := by simp [St.swap, hh]
    rw [this]; exact h'
  | true =>
    obtain ⟨k, rfl, ek, hk, hu, _⟩ := yes_of hf hh
    have okg := ok.swap k x
    refine (swap_yes hl k x hk hu).mono fun e w' ⟨he, h1, h2⟩ => ?_
    have hg : s.swap k x = ⟨s.T.set k (some x), s.B, s.most⟩ := by unfold St.swap; rw [if_pos hh, ek]
    refine ⟨by rw [he, hh], ⟨v, P.set k ⟨x, (P.getD k z0).used, (P.getD k z0).next⟩, ?_, ?_, okg⟩, SKept.of hl h2⟩
    · rw [hg]
      have e1 : s.len = St.len ⟨s.T.set k (some x), s.B, s.most⟩ := by simp only [St.len, List.length_set]
      rw [e1] at h1; exact h1
    · rw [hg]
      have := fit_swap hf hh x
      rw [ek] at this; exact this

theorem at_slo (h : Slo w p s) (i : Int) : Calls Try.prog 23 #[.pointer (some ⟨p, 0, none⟩), .int .i64 i] w fun e w' => e = .returned (.tuple #[.int .i64 (s.get i), .bool (s.has i)]) ∧ w = w' := by
  obtain ⟨v, P, hl, hf, ok⟩ := h
  cases hh : s.has i with
  | false => rw [get_no hh]; exact at_no hl i (no_of hf hh)
  | true =>
    obtain ⟨k, rfl, ek, hk, hu, hx⟩ := yes_of hf hh
    rw [← hx]
    exact at_yes hl k hk hu

theorem len_slo (h : Slo w p s) : Calls Try.prog 24 #[.pointer (some ⟨p, 0, none⟩)] w fun e w' => e = .returned (.int .i64 s.len) ∧ w = w' := by
  obtain ⟨v, P, hl, hf, ok⟩ := h
  exact slen_any p _ w hl.c3
theorem cap_slo (h : Slo w p s) : Calls Try.prog 41 #[.pointer (some ⟨p, 0, none⟩)] w fun e w' => e = .returned (.int .i64 s.most) ∧ w = w' := by
  obtain ⟨v, P, hl, hf, ok⟩ := h
  exact scap_any p _ w hl.c1
theorem used_slo (h : Slo w p s) : Calls Try.prog 34 #[.pointer (some ⟨p, 0, none⟩)] w (FreshL w s.used) := by
  obtain ⟨v, P, hl, hf, ok⟩ := h
  have := used_any hl
  rwa [fit_used hf] at this

def SNewPost (w : World) (m : Nat) (e : Ending) (w' : World) : Prop :=
  e = .returned (.pointer (some ⟨w.heap.size, 0, none⟩)) ∧ Slo w' w.heap.size ⟨[], [], m⟩ ∧ Below w.heap.size w w'

theorem new_slo (most : Int) : Calls Try.prog 20 #[.int .i64 most] w (SNewPost w (kap most)) :=
  (snew_low most w).mono fun e w' ⟨he, hw⟩ => by
    subst hw
    refine ⟨he, ⟨.slice none 0 0, [], ⟨kap_le most, by simp, ?_, World.ownsRow_nil _ _ _ _⟩, ⟨rfl, fun i hi => by simp at hi, fun k b hk => by simp at hk⟩, St.ok_new _ (kap_le most)⟩, (Below.refl _ _).alloc (Nat.le_refl _) _⟩
    exact heap_alloc_new w _
end

/-! ### awake -/
theorem sk_below {w0 w w' : World} {p : Nat} (h : SKept p w w') (hb : Below w0.heap.size w0 w) (hl : w0.heap.size ≤ p) : Below w0.heap.size w0 w' := hb.trans (h.low.mono hl)

theorem s_below_drewN {B : Nat} {w w' : World} (h : Below B w w') (n : Nat) : Below B w (w'.drewN n) := ⟨h.os, h.tape, h.output, h.size, h.block⟩

def AW (w : World) (p : Nat) (i : Value) (wr : World) : Prop :=
  ∃ k : Nat, k ≤ 3 ∧ i = .int .i64 k ∧ Slo wr p ⟨(List.range k).map fun j : Nat => some ((10 : Int) + (j : Int)), [], 3⟩ ∧ Below w.heap.size w wr

def TrueNewS (w : World) (e : Ending) (w' : World) : Prop := e = .returned (.bool true) ∧ Below w.heap.size w w'

theorem aw_take {k : Nat} (hk : k < 3) : St.take ⟨(List.range k).map fun j : Nat => some ((10 : Int) + (j : Int)), [], 3⟩ (10 + (k : Int)) = ⟨(List.range (k + 1)).map fun j : Nat => some ((10 : Int) + (j : Int)), [], 3⟩ := by
  have hf : St.full ⟨(List.range k).map fun j : Nat => some ((10 : Int) + (j : Int)), [], 3⟩ = false := by simp [St.full, St.len]; omega
  unfold St.take
  rw [hf]
  simp [List.range_succ]

set_option maxHeartbeats 1000000 in
theorem awake09 (w : World) : Calls Try.prog 19 #[] w (TrueNewS w) := by
  go_enter Try.func19, Try.ntmps19
  go_wp2_with fail
  with_reducible refine (new_slo 3).mono ?_
  rintro e w1 ⟨rfl, s1, b1⟩
  obtain ⟨p, hp⟩ : ∃ p, p = w.heap.size := ⟨_, rfl⟩
  have hwp : w.heap.size ≤ p := by omega
  rw [← hp] at s1 ⊢
  have S1 := Lib.hid s1
  have B1 := Lib.hid b1
  clear s1 b1 hp
  go_wp2_with fail
  go_loopw [2] (fun i wr => AW w p i wr) (fun i _ => 3 - (intOf i).toNat)
  case atStart => exact ⟨0, by omega, rfl, S1.out, B1.out⟩
  case round =>
    obtain ⟨k, hk, rfl, s2, b2⟩ := hrel
    have S2 := Lib.hid s2
    have B2 := Lib.hid b2
    clear s2 b2
    by_cases hlt : k < 3
    · go_wp2_with fail
      with_reducible refine (take_slo S2.out (10 + (k : Int))).mono ?_
      rintro e w3 ⟨rfl, s3, k3⟩
      rw [aw_take hlt] at s3
      have S3 := Lib.hid s3
      have B3 := Lib.hid (sk_below k3 B2.out hwp)
      clear s3 k3
      go_wp2_with fail
      go_roundw
      case rel => exact ⟨k + 1, hlt, by go_num, S3.out, B3.out⟩
      case measure => simp [intOf]; omega
    · obtain rfl : k = 3 := by omega
      go_wp2_with fail
      with_reducible refine (give_slo S2.out 1).mono ?_
      rintro e w3 ⟨rfl, s3, k3⟩
      have S3 := Lib.hid s3
      have B3 := Lib.hid (sk_below k3 B2.out hwp)
      clear s3 k3
      go_wp2_with fail
      with_reducible refine (give_slo S3.out 0).mono ?_
      rintro e w4 ⟨rfl, s4, k4⟩
      have S4 := Lib.hid s4
      have B4 := Lib.hid (sk_below k4 B3.out hwp)
      clear s4 k4
      go_wp2_with fail
      with_reducible refine (take_slo S4.out 7).mono ?_
      rintro e w5 ⟨rfl, s5, k5⟩
      have S5 := Lib.hid s5
      have B5 := Lib.hid (sk_below k5 B4.out hwp)
      clear s5 k5
      have e5 : takeI (((St.mk ((List.range 3).map fun j : Nat => some ((10 : Int) + (j : Int))) [] 3).give 1).give 0) = 0 := by decide
      have f5 : St.full (((St.mk ((List.range 3).map fun j : Nat => some ((10 : Int) + (j : Int))) [] 3).give 1).give 0) = false := by decide
      rw [e5, f5]
      clear e5 f5
      go_wp2_with fail
      with_reducible refine (take_slo S5.out 8).mono ?_
      rintro e w6 ⟨rfl, s6, k6⟩
      have S6 := Lib.hid s6
      have B6 := Lib.hid (sk_below k6 B5.out hwp)
      clear s6 k6
      have e6 : takeI ((((St.mk ((List.range 3).map fun j : Nat => some ((10 : Int) + (j : Int))) [] 3).give 1).give 0).take 7) = 1 := by decide
      have f6 : St.full ((((St.mk ((List.range 3).map fun j : Nat => some ((10 : Int) + (j : Int))) [] 3).give 1).give 0).take 7) = false := by decide
      rw [e6, f6]
      clear e6 f6
      go_wp2_with fail
      with_reducible refine (at_slo S6.out 0).mono ?_
      rintro e w7 ⟨rfl, rfl⟩
      have e7 : St.get (((((St.mk ((List.range 3).map fun j : Nat => some ((10 : Int) + (j : Int))) [] 3).give 1).give 0).take 7).take 8) 0 = 7 := by decide
      have f7 : St.has (((((St.mk ((List.range 3).map fun j : Nat => some ((10 : Int) + (j : Int))) [] 3).give 1).give 0).take 7).take 8) 0 = true := by decide
      rw [e7, f7]
      clear e7 f7
      go_wp2_with fail
      with_reducible refine (len_slo S6.out).mono ?_
      rintro e w8 ⟨rfl, rfl⟩
      have e8 : St.len (((((St.mk ((List.range 3).map fun j : Nat => some ((10 : Int) + (j : Int))) [] 3).give 1).give 0).take 7).take 8) = 3 := by decide
      rw [e8]
      clear e8
      go_wp2_with fail
      with_reducible refine (cap_slo S6.out).mono ?_
      rintro e w9 ⟨rfl, rfl⟩
      have e9 : St.most (((((St.mk ((List.range 3).map fun j : Nat => some ((10 : Int) + (j : Int))) [] 3).give 1).give 0).take 7).take 8) = 3 := by decide
      rw [e9]
      clear e9
      go_wp2_with fail
      go_ret
      exact ⟨rfl, B6.out⟩

end Go.Proofs.Ytjcmbddiffebhaa
