/-
  The methods of recency.List said of cells: what each call does to the links, the marks and the count of one list.
-/
import Derived.Test.YtjcmbddiffebhaaOnly
import Derived.WalkLawsBesides
import Derived.RegionTactic
import Derived.Deep.QuietTactic
import Derived.BigQuiet
import Derived.Deep.RegionWith
import Derived.Deep.RegionHeld3
import Derived.StillTailTactics
import Derived.Lib.Hide
import Derived.KernelRfl
namespace Go.Proofs.Ytjcmbddiffebhaa
open Go.RowKit

def upd (f : Int → Int) (a v : Int) : Int → Int := fun x => if x = a then v else f x
def updB (f : Int → Bool) (a : Int) (v : Bool) : Int → Bool := fun x => if x = a then v else f x

/-- a list at block p: its links in block bl, its marks in block bi -/
structure Low (w : World) (p bl bi m : Nat) (n : Int) (ah bh : Int → Int) (is : Int → Bool) : Prop where
  d1 : p ≠ bl
  d2 : p ≠ bi
  d3 : bl ≠ bi
  hm : m ≤ 1024
  c0 : w.cell? ⟨p, 0, none⟩ = some (.slice (some ⟨bl, 0, none⟩) (m + 1) (m + 1))
  c1 : w.cell? ⟨p, 1, none⟩ = some (.slice (some ⟨bi, 0, none⟩) m m)
  c2 : w.cell? ⟨p, 2, none⟩ = some (.int .i64 n)
  fp : w.frozen? ⟨p, 2, none⟩ = false
  l0 : ∀ a : Nat, a ≤ m → w.cell? ⟨bl, a * 2, none⟩ = some (.int .i64 (ah a))
  l1 : ∀ a : Nat, a ≤ m → w.cell? ⟨bl, a * 2 + 1, none⟩ = some (.int .i64 (bh a))
  fl : ∀ o, w.frozen? ⟨bl, o, none⟩ = false
  b0 : ∀ i : Nat, i < m → w.cell? ⟨bi, i, none⟩ = some (.bool (is i))
  fb : ∀ o, w.frozen? ⟨bi, o, none⟩ = false
  sb : bl < w.heap.size
  si : bi < w.heap.size

def OfList (p bl bi : Nat) : Nat → Prop := fun k => k = p ∨ k = bl ∨ k = bi

section
variable {w w' : World} {p bl bi m : Nat} {n : Int} {ah bh : Int → Int} {is : Int → Bool}

theorem Low.only (h : Low w p bl bi m n ah bh is) {S : Nat → Prop} (ho : Only S w w') (h1 : ¬ S p) (h2 : ¬ S bl) (h3 : ¬ S bi) : Low w' p bl bi m n ah bh is :=
  ⟨h.d1, h.d2, h.d3, h.hm, ho.cell' h.c0 h1, ho.cell' h.c1 h1, ho.cell' h.c2 h1,
    (ho.frozen (p := ⟨p, 2, none⟩) (World.block_lt_of_cell? _ ⟨p, 2, none⟩ h.c2) h1).trans h.fp,
    fun a ha => ho.cell' (h.l0 a ha) h2, fun a ha => ho.cell' (h.l1 a ha) h2, fun o => (ho.frozen (p := ⟨bl, o, none⟩) h.sb h2).trans (h.fl o),
    fun i hi => ho.cell' (h.b0 i hi) h3, fun o => (ho.frozen (p := ⟨bi, o, none⟩) h.si h3).trans (h.fb o), Nat.lt_of_lt_of_le h.sb ho.size, Nat.lt_of_lt_of_le h.si ho.size⟩

theorem Low.drew (h : Low w p bl bi m n ah bh is) : Low w.drew p bl bi m n ah bh is := ⟨h.d1, h.d2, h.d3, h.hm, h.c0, h.c1, h.c2, h.fp, h.l0, h.l1, h.fl, h.b0, h.fb, h.sb, h.si⟩
theorem Low.drewN (h : Low w p bl bi m n ah bh is) (k : Nat) : Low (w.drewN k) p bl bi m n ah bh is := ⟨h.d1, h.d2, h.d3, h.hm, h.c0, h.c1, h.c2, h.fp, h.l0, h.l1, h.fl, h.b0, h.fb, h.sb, h.si⟩

theorem cell_other {b o b' o' : Nat} (h : b ≠ b' ∨ o ≠ o') (u : Value) : (w.setCell ⟨b, o, none⟩ u).cell? ⟨b', o', none⟩ = w.cell? ⟨b', o', none⟩ :=
  World.cell?_setCell_other _ _ _ _ (by intro e; injection e with e1 e2; rcases h with h | h <;> contradiction)

/-- a link behind -/
theorem Low.setBehind (h : Low w p bl bi m n ah bh is) (a : Nat) (ha : a ≤ m) (v : Int) : Low (w.setCell ⟨bl, a * 2 + 1, none⟩ (.int .i64 v)) p bl bi m n ah (upd bh a v) is := by
  refine ⟨h.d1, h.d2, h.d3, h.hm, ?_, ?_, ?_, ?_, ?_, ?_, ?_, ?_, ?_, by simpa using h.sb, by simpa using h.si⟩
  · rw [cell_other (.inl (Ne.symm h.d1))]; exact h.c0
  · rw [cell_other (.inl (Ne.symm h.d1))]; exact h.c1
  · rw [cell_other (.inl (Ne.symm h.d1))]; exact h.c2
  · rw [World.frozen?_setCell]; exact h.fp
  · intro c hc; rw [cell_other (.inr (by omega))]; exact h.l0 c hc
  · intro c hc
    by_cases e : c = a
    · subst e; rw [World.cell?_setCell_same _ _ _ (h.l1 c hc)]; simp [upd]
    · rw [cell_other (.inr (by omega)), h.l1 c hc]; unfold upd; rw [if_neg (by omega)]
  · intro o; rw [World.frozen?_setCell]; exact h.fl o
  · intro c hc; rw [cell_other (.inl h.d3)]; exact h.b0 c hc
  · intro o; rw [World.frozen?_setCell]; exact h.fb o

/-- a link ahead -/
theorem Low.setAhead (h : Low w p bl bi m n ah bh is) (a : Nat) (ha : a ≤ m) (v : Int) : Low (w.setCell ⟨bl, a * 2, none⟩ (.int .i64 v)) p bl bi m n (upd ah a v) bh is := by
  refine ⟨h.d1, h.d2, h.d3, h.hm, ?_, ?_, ?_, ?_, ?_, ?_, ?_, ?_, ?_, by simpa using h.sb, by simpa using h.si⟩
  · rw [cell_other (.inl (Ne.symm h.d1))]; exact h.c0
  · rw [cell_other (.inl (Ne.symm h.d1))]; exact h.c1
  · rw [cell_other (.inl (Ne.symm h.d1))]; exact h.c2
  · rw [World.frozen?_setCell]; exact h.fp
  · intro c hc
    by_cases e : c = a
    · subst e; rw [World.cell?_setCell_same _ _ _ (h.l0 c hc)]; simp [upd]
    · rw [cell_other (.inr (by omega)), h.l0 c hc]; unfold upd; rw [if_neg (by omega)]
  · intro c hc; rw [cell_other (.inr (by omega))]; exact h.l1 c hc
  · intro o; rw [World.frozen?_setCell]; exact h.fl o
  · intro c hc; rw [cell_other (.inl h.d3)]; exact h.b0 c hc
  · intro o; rw [World.frozen?_setCell]; exact h.fb o

/-- a mark -/
theorem Low.setMark (h : Low w p bl bi m n ah bh is) (a : Nat) (ha : a < m) (v : Bool) : Low (w.setCell ⟨bi, a, none⟩ (.bool v)) p bl bi m n ah bh (updB is a v) := by
  refine ⟨h.d1, h.d2, h.d3, h.hm, ?_, ?_, ?_, ?_, ?_, ?_, ?_, ?_, ?_, by simpa using h.sb, by simpa using h.si⟩
  · rw [cell_other (.inl (Ne.symm h.d2))]; exact h.c0
  · rw [cell_other (.inl (Ne.symm h.d2))]; exact h.c1
  · rw [cell_other (.inl (Ne.symm h.d2))]; exact h.c2
  · rw [World.frozen?_setCell]; exact h.fp
  · intro c hc; rw [cell_other (.inl (Ne.symm h.d3))]; exact h.l0 c hc
  · intro c hc; rw [cell_other (.inl (Ne.symm h.d3))]; exact h.l1 c hc
  · intro o; rw [World.frozen?_setCell]; exact h.fl o
  · intro c hc
    by_cases e : c = a
    · subst e; rw [World.cell?_setCell_same _ _ _ (h.b0 c hc)]; simp [updB]
    · rw [cell_other (.inr (by omega)), h.b0 c hc]; unfold updB; rw [if_neg (by omega)]
  · intro o; rw [World.frozen?_setCell]; exact h.fb o

/-- the count -/
theorem Low.setCount (h : Low w p bl bi m n ah bh is) (v : Int) : Low (w.setCell ⟨p, 2, none⟩ (.int .i64 v)) p bl bi m v ah bh is := by
  refine ⟨h.d1, h.d2, h.d3, h.hm, ?_, ?_, ?_, ?_, ?_, ?_, ?_, ?_, ?_, by simpa using h.sb, by simpa using h.si⟩
  · rw [cell_other (.inr (by omega))]; exact h.c0
  · rw [cell_other (.inr (by omega))]; exact h.c1
  · rw [World.cell?_setCell_same _ _ _ h.c2]
  · rw [World.frozen?_setCell]; exact h.fp
  · intro c hc; rw [cell_other (.inl h.d1)]; exact h.l0 c hc
  · intro c hc; rw [cell_other (.inl h.d1)]; exact h.l1 c hc
  · intro o; rw [World.frozen?_setCell]; exact h.fl o
  · intro c hc; rw [cell_other (.inl h.d2)]; exact h.b0 c hc
  · intro o; rw [World.frozen?_setCell]; exact h.fb o
end

/-! ### the small methods -/
set_option maxHeartbeats 400000 in
theorem may_nil (i : Int) (w : World) :
    Calls Try.prog 42 #[.pointer none, .int .i64 i] w fun e w' => e = .returned (.bool false) ∧ w = w' := by
  go_enter Try.func42, Try.ntmps42
  go_wp2
  go_ret
  exact ⟨rfl, rfl⟩

set_option maxHeartbeats 400000 in
theorem may_yes (p m k : Nat) (A : Option Addr) (w : World) (_hm : m ≤ 1024) (hk : k < m)
    (c1 : w.cell? ⟨p, 1, none⟩ = some (.slice A m m)) :
    Calls Try.prog 42 #[.pointer (some ⟨p, 0, none⟩), .int .i64 k] w fun e w' => e = .returned (.bool true) ∧ w = w' := by
  go_enter Try.func42, Try.ntmps42
  go_wp2
  go_ret
  exact ⟨by simp, rfl⟩

set_option maxHeartbeats 400000 in
theorem may_no (p m : Nat) (A : Option Addr) (i : Int) (w : World) (_hm : m ≤ 1024) (hi : i < 0 ∨ (m : Int) ≤ i)
    (c1 : w.cell? ⟨p, 1, none⟩ = some (.slice A m m)) :
    Calls Try.prog 42 #[.pointer (some ⟨p, 0, none⟩), .int .i64 i] w fun e w' => e = .returned (.bool false) ∧ w = w' := by
  rcases hi with hi | hi
  all_goals
    go_enter Try.func42, Try.ntmps42
    go_wp2
    all_goals go_ret
    all_goals exact ⟨by simp; try omega, rfl⟩

set_option maxHeartbeats 400000 in
theorem end_any (p m : Nat) (A : Option Addr) (w : World)
    (c1 : w.cell? ⟨p, 1, none⟩ = some (.slice A m m)) :
    Calls Try.prog 44 #[.pointer (some ⟨p, 0, none⟩)] w fun e w' => e = .returned (.int .i64 m) ∧ w = w' := by
  go_enter Try.func44, Try.ntmps44
  go_wp2
  go_ret
  exact ⟨rfl, rfl⟩

set_option maxHeartbeats 400000 in
theorem len_nil (w : World) :
    Calls Try.prog 31 #[.pointer none] w fun e w' => e = .returned (.int .i64 0) ∧ w = w' := by
  go_enter Try.func31, Try.ntmps31
  go_wp2
  go_ret
  exact ⟨rfl, rfl⟩

set_option maxHeartbeats 400000 in
theorem len_any (p : Nat) (n : Int) (w : World) (c2 : w.cell? ⟨p, 2, none⟩ = some (.int .i64 n)) :
    Calls Try.prog 31 #[.pointer (some ⟨p, 0, none⟩)] w fun e w' => e = .returned (.int .i64 n) ∧ w = w' := by
  go_enter Try.func31, Try.ntmps31
  go_wp2
  go_ret
  exact ⟨rfl, rfl⟩

set_option maxHeartbeats 400000 in
theorem tie_cells (p bl m a b : Nat) (va vb : Value) (w : World) (_hm : m ≤ 1024) (_ha : a ≤ m) (_hb : b ≤ m)
    (c0 : w.cell? ⟨p, 0, none⟩ = some (.slice (some ⟨bl, 0, none⟩) (m + 1) (m + 1)))
    (ca : w.cell? ⟨bl, a * 2 + 1, none⟩ = some va) (cb : w.cell? ⟨bl, b * 2, none⟩ = some vb)
    (fl : ∀ o, w.frozen? ⟨bl, o, none⟩ = false) :
    Calls Try.prog 45 #[.pointer (some ⟨p, 0, none⟩), .int .i64 a, .int .i64 b] w fun e w' => e = .returned (.tuple #[]) ∧
      w' = ((w.setCell ⟨bl, a * 2 + 1, none⟩ (.int .i64 b)).setCell ⟨bl, b * 2, none⟩ (.int .i64 a)).drew := by
  go_enter Try.func45, Try.ntmps45
  go_wp2
  go_region
  all_goals go_end0
  all_goals exact ⟨rfl, rfl⟩

section
variable {w : World} {p bl bi m : Nat} {n : Int} {ah bh : Int → Int} {is : Int → Bool}

theorem tie_low (h : Low w p bl bi m n ah bh is) (a b : Nat) (ha : a ≤ m) (hb : b ≤ m) :
    Calls Try.prog 45 #[.pointer (some ⟨p, 0, none⟩), .int .i64 a, .int .i64 b] w fun e w' => e = .returned (.tuple #[]) ∧
      Low w' p bl bi m n (upd ah b a) (upd bh a b) is ∧ Only (OfList p bl bi) w w' ∧ w'.heap.size = w.heap.size :=
  (tie_cells p bl m a b _ _ w h.hm ha hb h.c0 (h.l1 a ha) (h.l0 b hb) h.fl).mono fun e w' ⟨he, hw⟩ => by
    subst hw
    exact ⟨he, ((h.setBehind a ha b).setAhead b hb a).drew,
      (((Only.refl _ _).setCell (.inl (.inr (.inl rfl))) _).setCell (.inl (.inr (.inl rfl))) _).drew, by simp⟩

set_option maxHeartbeats 400000 in
theorem cut_low (h : Low w p bl bi m n ah bh is) (k x y : Nat) (hk : k ≤ m) (hx : x ≤ m) (hy : y ≤ m) (ex : ah k = x) (ey : bh k = y) :
    Calls Try.prog 43 #[.pointer (some ⟨p, 0, none⟩), .int .i64 k] w fun e w' => e = .returned (.tuple #[]) ∧
      Low w' p bl bi m n (upd ah y x) (upd bh x y) is ∧ Only (OfList p bl bi) w w' ∧ w'.heap.size = w.heap.size := by
  have g0 := h.c0
  have g1 := h.l0 k hk
  have g2 := h.l1 k hk
  have hm := h.hm
  rw [ex] at g1
  rw [ey] at g2
  clear ex ey
  have b1 : (0 : Int) ≤ (k : Int) := by omega
  have b2 : (k : Int) < (m : Int) + 1 := by omega
  go_enter Try.func43, Try.ntmps43
  go_wp2
  go_still_tail 17, (by kernel_rfl)
  go_wp2_with fail
  refine (tie_low h.drew x y hx hy).mono ?_
  rintro e w' ⟨rfl, h1, h2, h3⟩
  go_wp2
  go_end0
  exact ⟨rfl, h1, (Only.refl _ _).drew.trans h2, h3⟩

set_option maxHeartbeats 400000 in
theorem has_low (h : Low w p bl bi m n ah bh is) (k : Nat) (hk : k < m) :
    Calls Try.prog 16 #[.pointer (some ⟨p, 0, none⟩), .int .i64 k] w fun e w' => e = .returned (.bool (is k)) ∧ w = w' := by
  have g1 := h.c1
  have g2 := h.b0 k hk
  have hm := h.hm
  go_enter Try.func16, Try.ntmps16
  go_wp2_with (go_at_call 42; refine (may_yes p m k _ w hm hk g1).mono ?_; rintro e w' ⟨rfl, rfl⟩)
  go_ret
  exact ⟨rfl, rfl⟩

set_option maxHeartbeats 400000 in
theorem has_no (A : Option Addr) (i : Int) (hm : m ≤ 1024) (hi : i < 0 ∨ (m : Int) ≤ i) (c1 : w.cell? ⟨p, 1, none⟩ = some (.slice A m m)) :
    Calls Try.prog 16 #[.pointer (some ⟨p, 0, none⟩), .int .i64 i] w fun e w' => e = .returned (.bool false) ∧ w = w' := by
  go_enter Try.func16, Try.ntmps16
  go_wp2_with (go_at_call 42; refine (may_no p m _ i w hm hi c1).mono ?_; rintro e w' ⟨rfl, rfl⟩)
  go_ret
  exact ⟨rfl, rfl⟩

set_option maxHeartbeats 400000 in
theorem has_nil (i : Int) : Calls Try.prog 16 #[.pointer none, .int .i64 i] w fun e w' => e = .returned (.bool false) ∧ w = w' := by
  go_enter Try.func16, Try.ntmps16
  go_wp2_with (go_at_call 42; refine (may_nil i w).mono ?_; rintro e w' ⟨rfl, rfl⟩)
  go_ret
  exact ⟨rfl, rfl⟩

set_option maxHeartbeats 400000 in
theorem drop_low (h : Low w p bl bi m n ah bh is) (k x y : Nat) (hk : k < m) (hx : x ≤ m) (hy : y ≤ m) (ex : ah k = x) (ey : bh k = y) (hi : is k = true) (hn0 : 0 ≤ n) (hn : n ≤ 1024) :
    Calls Try.prog 33 #[.pointer (some ⟨p, 0, none⟩), .int .i64 k] w fun e w' => e = .returned (.bool true) ∧
      Low w' p bl bi m (n - 1) (upd ah y x) (upd bh x y) (updB is k false) ∧ Only (OfList p bl bi) w w' ∧ w'.heap.size = w.heap.size := by
  have hm := h.hm
  have hh := (has_low h k hk)
  rw [hi] at hh
  clear hi
  have HC := Lib.hid (cut_low h k x y (by omega) hx hy ex ey)
  clear ex ey
  go_enter Try.func33, Try.ntmps33
  go_wp2_with fail
  refine hh.mono ?_
  rintro e w' ⟨rfl, rfl⟩
  go_wp2_with fail
  refine HC.out.mono ?_
  rintro e w1 ⟨rfl, h1, h2, h3⟩
  have g1 := h1.c1
  have g2 := h1.c2
  have g3 := h1.b0 k hk
  have g4 := h1.fb k
  have g5 := h1.fp
  have g6 := cell_other (w := w1) (b := bi) (o := k) (b' := p) (o' := 2) (.inl (Ne.symm h1.d2)) (.bool false)
  have H1 := Lib.hid h1
  have H2 := Lib.hid h2
  have H3 := Lib.hid h3
  clear h1 h2 h3
  go_wp2
  go_ret
  exact ⟨rfl, (H1.out.setMark k hk false).setCount _, (H2.out.setCell (.inl (.inr (.inr rfl))) _).setCell (.inl (.inl rfl)) _, by simpa using H3.out⟩

set_option maxHeartbeats 800000 in
theorem touch_old (h : Low w p bl bi m n ah bh is) (k x y f : Nat) (hk : k < m) (hx : x ≤ m) (hy : y ≤ m) (hf : f ≤ m) (ex : ah k = x) (ey : bh k = y) (ef : upd bh x y m = f) (hi : is k = true) :
    Calls Try.prog 15 #[.pointer (some ⟨p, 0, none⟩), .int .i64 k] w fun e w' => e = .returned (.bool true) ∧
      Low w' p bl bi m n (upd (upd (upd ah y x) k m) f k) (upd (upd (upd bh x y) m k) k f) is ∧ Only (OfList p bl bi) w w' ∧ w'.heap.size = w.heap.size := by
  have hm := h.hm
  have g1 := h.c1
  have g2 := h.b0 k hk
  rw [hi] at g2
  have HC := Lib.hid (cut_low h k x y (by omega) hx hy ex ey)
  clear ex ey hi
  go_enter Try.func15, Try.ntmps15
  go_wp2_with fail
  refine (may_yes p m k _ w hm hk g1).mono ?_
  rintro e w' ⟨rfl, rfl⟩
  go_wp2_with fail
  refine HC.out.mono ?_
  rintro e w1 ⟨rfl, h1, h2, h3⟩
  have e1 := h1.c1
  have e0 := h1.c0
  have em := h1.l1 m (Nat.le_refl m)
  rw [ef] at em
  have H1 := Lib.hid h1
  have H2 := Lib.hid h2
  have H3 := Lib.hid h3
  have HE := Lib.hid ef
  clear h1 h2 h3 ef g1 g2 HC
  have b1 : (0 : Int) ≤ (m : Int) := by omega
  have b2 : (m : Int) < (m : Int) + 1 := by omega
  go_wp2_with fail
  go_quiet ((go_at_call 44; exact Calls.quiet_of_same ((end_any _ _ _ _ (by simpa using e1)).mono (fun _ _ h => ⟨h.1, h.2.symm⟩))))
  go_wp2_with fail
  refine (end_any p m (some ⟨bi, 0, none⟩) _ (by simpa using e1)).mono ?_
  rintro e w2 ⟨rfl, rfl⟩
  go_wp2_with fail
  refine (tie_low (H1.out.drewN nq) m k (Nat.le_refl m) (by omega)).mono ?_
  rintro e w3 ⟨rfl, k1, k2, k3⟩
  have K1 := Lib.hid k1
  have K2 := Lib.hid k2
  have K3 := Lib.hid k3
  clear k1 k2 k3 e1 e0 em
  go_wp2_with fail
  refine (tie_low K1.out k f (by omega) hf).mono ?_
  rintro e w4 ⟨rfl, j1, j2, j3⟩
  have J1 := Lib.hid j1
  have J2 := Lib.hid j2
  have J3 := Lib.hid j3
  clear j1 j2 j3
  go_wp2
  go_ret
  exact ⟨rfl, J1.out, ((H2.out.drewN nq).trans K2.out).trans J2.out, by rw [J3.out, K3.out]; exact H3.out⟩

set_option maxHeartbeats 800000 in
theorem touch_new (h : Low w p bl bi m n ah bh is) (k f : Nat) (hk : k < m) (hf : f ≤ m) (ef : bh m = f) (hi : is k = false) (hn0 : 0 ≤ n) (hn : n ≤ 1024) :
    Calls Try.prog 15 #[.pointer (some ⟨p, 0, none⟩), .int .i64 k] w fun e w' => e = .returned (.bool true) ∧
      Low w' p bl bi m (n + 1) (upd (upd ah k m) f k) (upd (upd bh m k) k f) (updB is k true) ∧ Only (OfList p bl bi) w w' ∧ w'.heap.size = w.heap.size := by
  have hm := h.hm
  have g1 := h.c1
  have g2 := h.b0 k hk
  have g3 := h.c2
  have g4 := h.fb k
  have g5 := h.fp
  have g6 := cell_other (w := w) (b := bi) (o := k) (b' := p) (o' := 2) (.inl (Ne.symm h.d2)) (.bool true)
  have h1 := (h.setMark k hk true).setCount (n + 1)
  have e1 := h1.c1
  have e0 := h1.c0
  have em := h1.l1 m (Nat.le_refl m)
  rw [ef] at em
  rw [hi] at g2
  have H1 := Lib.hid h1
  have H2 := Lib.hid (((Only.refl (OfList p bl bi) w).setCell (p := ⟨bi, k, none⟩) (.inl (.inr (.inr rfl))) (.bool true)).setCell (p := ⟨p, 2, none⟩) (.inl (.inl rfl)) (.int .i64 (n + 1)))
  have HE := Lib.hid ef
  clear ef hi h1
  have b1 : (0 : Int) ≤ (m : Int) := by omega
  have b2 : (m : Int) < (m : Int) + 1 := by omega
  go_enter Try.func15, Try.ntmps15
  go_wp2_with fail
  refine (may_yes p m k _ w hm hk g1).mono ?_
  rintro e w' ⟨rfl, rfl⟩
  go_wp2_with fail
  go_quiet ((go_at_call 44; exact Calls.quiet_of_same ((end_any _ _ _ _ (by simpa using e1)).mono (fun _ _ h => ⟨h.1, h.2.symm⟩))))
  go_wp2_with fail
  refine (end_any p m (some ⟨bi, 0, none⟩) _ (by simpa using e1)).mono ?_
  rintro e w2 ⟨rfl, rfl⟩
  go_wp2_with fail
  refine (tie_low (H1.out.drewN nq) m k (Nat.le_refl m) (by omega)).mono ?_
  rintro e w3 ⟨rfl, k1, k2, k3⟩
  have K1 := Lib.hid k1
  have K2 := Lib.hid k2
  have K3 := Lib.hid k3
  clear k1 k2 k3 e1 e0 em
  go_wp2_with fail
  refine (tie_low K1.out k f (by omega) hf).mono ?_
  rintro e w4 ⟨rfl, j1, j2, j3⟩
  have J1 := Lib.hid j1
  have J2 := Lib.hid j2
  have J3 := Lib.hid j3
  clear j1 j2 j3
  go_wp2
  go_ret
  exact ⟨rfl, J1.out, ((H2.out.drewN nq).trans K2.out).trans J2.out, by rw [J3.out, K3.out]; simp⟩

set_option maxHeartbeats 400000 in
theorem touch_no (A : Option Addr) (i : Int) (hm : m ≤ 1024) (hi : i < 0 ∨ (m : Int) ≤ i) (c1 : w.cell? ⟨p, 1, none⟩ = some (.slice A m m)) :
    Calls Try.prog 15 #[.pointer (some ⟨p, 0, none⟩), .int .i64 i] w fun e w' => e = .returned (.bool false) ∧ w = w' := by
  go_enter Try.func15, Try.ntmps15
  go_wp2_with (go_at_call 42; refine (may_no p m _ i w hm hi c1).mono ?_; rintro e w' ⟨rfl, rfl⟩)
  go_ret
  exact ⟨rfl, rfl⟩

set_option maxHeartbeats 400000 in
theorem touch_nil (i : Int) : Calls Try.prog 15 #[.pointer none, .int .i64 i] w fun e w' => e = .returned (.bool false) ∧ w = w' := by
  go_enter Try.func15, Try.ntmps15
  go_wp2_with (go_at_call 42; refine (may_nil i w).mono ?_; rintro e w' ⟨rfl, rfl⟩)
  go_ret
  exact ⟨rfl, rfl⟩

set_option maxHeartbeats 400000 in
theorem drop_no (A : Option Addr) (i : Int) (hm : m ≤ 1024) (hi : i < 0 ∨ (m : Int) ≤ i) (c1 : w.cell? ⟨p, 1, none⟩ = some (.slice A m m)) :
    Calls Try.prog 33 #[.pointer (some ⟨p, 0, none⟩), .int .i64 i] w fun e w' => e = .returned (.bool false) ∧ w = w' := by
  go_enter Try.func33, Try.ntmps33
  go_wp2_with (go_at_call 16; refine (has_no A i hm hi c1).mono ?_; rintro e w' ⟨rfl, rfl⟩)
  go_ret
  exact ⟨rfl, rfl⟩

set_option maxHeartbeats 400000 in
theorem drop_out (h : Low w p bl bi m n ah bh is) (k : Nat) (hk : k < m) (hi : is k = false) :
    Calls Try.prog 33 #[.pointer (some ⟨p, 0, none⟩), .int .i64 k] w fun e w' => e = .returned (.bool false) ∧ w = w' := by
  have hh := (has_low h k hk)
  rw [hi] at hh
  clear hi
  go_enter Try.func33, Try.ntmps33
  go_wp2_with (go_at_call 16; refine hh.mono ?_; rintro e w' ⟨rfl, rfl⟩)
  go_ret
  exact ⟨rfl, rfl⟩

set_option maxHeartbeats 400000 in
theorem drop_nil (i : Int) : Calls Try.prog 33 #[.pointer none, .int .i64 i] w fun e w' => e = .returned (.bool false) ∧ w = w' := by
  go_enter Try.func33, Try.ntmps33
  go_wp2_with (go_at_call 16; refine (has_nil i).mono ?_; rintro e w' ⟨rfl, rfl⟩)
  go_ret
  exact ⟨rfl, rfl⟩

set_option maxHeartbeats 400000 in
theorem last_nil : Calls Try.prog 29 #[.pointer none] w fun e w' => e = .returned (.tuple #[.int .i64 0, .bool false]) ∧ w = w' := by
  go_enter Try.func29, Try.ntmps29
  go_wp2_with (go_at_call 31; refine (len_nil w).mono ?_; rintro e w' ⟨rfl, rfl⟩)
  go_ret2
  exact ⟨rfl, rfl⟩

set_option maxHeartbeats 400000 in
theorem last_none (c2 : w.cell? ⟨p, 2, none⟩ = some (.int .i64 0)) : Calls Try.prog 29 #[.pointer (some ⟨p, 0, none⟩)] w fun e w' => e = .returned (.tuple #[.int .i64 0, .bool false]) ∧ w = w' := by
  go_enter Try.func29, Try.ntmps29
  go_wp2_with (go_at_call 31; refine (len_any p 0 w c2).mono ?_; rintro e w' ⟨rfl, rfl⟩)
  go_ret2
  exact ⟨rfl, rfl⟩

set_option maxHeartbeats 400000 in
theorem last_low (h : Low w p bl bi m n ah bh is) (hn : 0 < n) (f : Nat) (ef : ah m = f) :
    Calls Try.prog 29 #[.pointer (some ⟨p, 0, none⟩)] w fun e w' => e = .returned (.tuple #[.int .i64 f, .bool true]) ∧ ∃ q, w' = w.drewN q := by
  have hm := h.hm
  have g0 := h.c0
  have g1 := h.c1
  have g2 := h.c2
  have g3 := h.l0 m (Nat.le_refl m)
  rw [ef] at g3
  clear ef
  have b1 : (0 : Int) ≤ (m : Int) := by omega
  have b2 : (m : Int) < (m : Int) + 1 := by omega
  have b3 : (n == 0) = false := by simp; omega
  go_enter Try.func29, Try.ntmps29
  go_wp2_with fail
  refine (len_any p n w g2).mono ?_
  rintro e w' ⟨rfl, rfl⟩
  go_wp2_with fail
  go_quiet ((go_at_call 44; exact Calls.quiet_of_same ((end_any _ _ _ _ (by simpa using g1)).mono (fun _ _ h => ⟨h.1, h.2.symm⟩))))
  go_wp2
  go_ret2
  exact ⟨rfl, nq, rfl⟩
end

end Go.Proofs.Ytjcmbddiffebhaa
