/-
  At, Swap, Give, Take, Used and New of slots.Slots[int], said of cells.
-/
import Derived.Test.YtjcmbddiffebhaaSloA
import Derived.StillTailTactics
namespace Go.Proofs.Ytjcmbddiffebhaa
open Go.RowKit

section
variable {w w' : World} {p most : Nat} {v : Value} {P : List Pl} {free n : Int}

set_option maxHeartbeats 400000 in
theorem at_nil (i : Int) : Calls Try.prog 23 #[.pointer none, .int .i64 i] w fun e w' => e = .returned (.tuple #[.int .i64 0, .bool false]) ∧ w = w' := by
  go_enter Try.func23, Try.ntmps23
  go_wp2_with (go_at_call 46; refine (spot_nil i w).mono ?_; rintro e w' ⟨rfl, rfl⟩)
  go_ret2
  exact ⟨rfl, rfl⟩

/-- where spot finds nothing -/
theorem spot_no (h : SLow w p v P most free n) (i : Int) (hi : i < 0 ∨ (P.length : Int) ≤ i ∨ (P.getD i.toNat z0).used = false) :
    Calls Try.prog 46 #[.pointer (some ⟨p, 0, none⟩), .int .i64 i] w fun e w' => e = .returned (.pointer none) ∧ w = w' := by
  obtain ⟨A, c, hv⟩ := h.shape
  have hl := h.hl
  have hm := h.hm
  have c0 := h.c0
  rw [hv] at c0
  by_cases hr : i < 0 ∨ (P.length : Int) ≤ i
  · exact spot_out p P.length c A i w (by omega) hr c0
  · obtain ⟨k, rfl⟩ := Int.eq_ofNat_of_zero_le (show 0 ≤ i by omega)
    obtain ⟨g, hA, _, _, _, hu, _⟩ := h.at_ hv k (by omega)
    subst hA
    have : (P.getD k z0).used = false := by rcases hi with h | h | h <;> first | omega | exact h
    rw [this] at hu
    exact spot_free p P.length c g k w (by omega) (by omega) c0 hu

theorem spot_at (h : SLow w p v P most free n) (k : Nat) (hk : k < P.length) (hu : (P.getD k z0).used = true) :
    ∃ g c, v = .slice (some ⟨g, 0, none⟩) P.length c ∧ Calls Try.prog 46 #[.pointer (some ⟨p, 0, none⟩), .int .i64 k] w fun e w' => e = .returned (.pointer (some ⟨g, k * 3, none⟩)) ∧ w = w' := by
  obtain ⟨A, c, hv⟩ := h.shape
  have hl := h.hl
  have hm := h.hm
  have c0 := h.c0
  rw [hv] at c0
  obtain ⟨g, hA, _, _, _, hu', _⟩ := h.at_ hv k hk
  subst hA
  rw [hu] at hu'
  exact ⟨g, c, hv, spot_yes p P.length c g k w (by omega) hk c0 hu'⟩

set_option maxHeartbeats 400000 in
theorem at_no (h : SLow w p v P most free n) (i : Int) (hi : i < 0 ∨ (P.length : Int) ≤ i ∨ (P.getD i.toNat z0).used = false) :
    Calls Try.prog 23 #[.pointer (some ⟨p, 0, none⟩), .int .i64 i] w fun e w' => e = .returned (.tuple #[.int .i64 0, .bool false]) ∧ w = w' := by
  have H := Lib.hid (spot_no h i hi)
  clear h hi
  go_enter Try.func23, Try.ntmps23
  go_wp2_with (go_at_call 46; refine H.out.mono ?_; rintro e w' ⟨rfl, rfl⟩)
  go_ret2
  exact ⟨rfl, rfl⟩

set_option maxHeartbeats 400000 in
theorem at_yes (h : SLow w p v P most free n) (k : Nat) (hk : k < P.length) (hu : (P.getD k z0).used = true) :
    Calls Try.prog 23 #[.pointer (some ⟨p, 0, none⟩), .int .i64 k] w fun e w' => e = .returned (.tuple #[.int .i64 (P.getD k z0).x, .bool true]) ∧ w = w' := by
  obtain ⟨g, c, hv, hs⟩ := spot_at h k hk hu
  obtain ⟨g', hA, _, _, hx, _⟩ := h.at_ hv k hk
  injection hA with hA
  injection hA with hA
  subst hA
  have H := Lib.hid hs
  obtain ⟨x, hx'⟩ : ∃ x, x = (P.getD k z0).x := ⟨_, rfl⟩
  rw [← hx'] at hx ⊢
  clear h hs hu hv hx' hk
  go_enter Try.func23, Try.ntmps23
  go_wp2_with (go_at_call 46; refine H.out.mono ?_; rintro e w' ⟨rfl, rfl⟩)
  go_ret2
  exact ⟨rfl, rfl⟩

set_option maxHeartbeats 400000 in
theorem swap_nil (i x : Int) : Calls Try.prog 38 #[.pointer none, .int .i64 i, .int .i64 x] w fun e w' => e = .returned (.bool false) ∧ w = w' := by
  go_enter Try.func38, Try.ntmps38
  go_wp2_with (go_at_call 46; refine (spot_nil i w).mono ?_; rintro e w' ⟨rfl, rfl⟩)
  go_ret
  exact ⟨rfl, rfl⟩

set_option maxHeartbeats 400000 in
theorem swap_no (h : SLow w p v P most free n) (i x : Int) (hi : i < 0 ∨ (P.length : Int) ≤ i ∨ (P.getD i.toNat z0).used = false) :
    Calls Try.prog 38 #[.pointer (some ⟨p, 0, none⟩), .int .i64 i, .int .i64 x] w fun e w' => e = .returned (.bool false) ∧ w = w' := by
  have H := Lib.hid (spot_no h i hi)
  clear h hi
  go_enter Try.func38, Try.ntmps38
  go_wp2_with (go_at_call 46; refine H.out.mono ?_; rintro e w' ⟨rfl, rfl⟩)
  go_ret
  exact ⟨rfl, rfl⟩

set_option maxHeartbeats 400000 in
theorem swap_yes (h : SLow w p v P most free n) (k : Nat) (x : Int) (hk : k < P.length) (hu : (P.getD k z0).used = true) :
    Calls Try.prog 38 #[.pointer (some ⟨p, 0, none⟩), .int .i64 k, .int .i64 x] w fun e w' => e = .returned (.bool true) ∧
      SLow w' p v (P.set k ⟨x, (P.getD k z0).used, (P.getD k z0).next⟩) most free n ∧ Only (Foot p v) w w' := by
  obtain ⟨g, c, hv, hs⟩ := spot_at h k hk hu
  obtain ⟨g', hA, _, hown, hx, _, _, hf⟩ := h.at_ hv k hk
  injection hA with hA
  injection hA with hA
  subst hA
  have H := Lib.hid hs
  have HS := Lib.hid (show SLow (w.setCell ⟨g, k * 3, none⟩ (.int .i64 x)) p v (P.set k ⟨x, (P.getD k z0).used, (P.getD k z0).next⟩) most free n by subst hv; exact h.setX k hk x)
  have HO := Lib.hid (show Only (Foot p v) w (w.setCell ⟨g, k * 3, none⟩ (.int .i64 x)) from (Only.refl _ w).setCell (.inl (.inr hown)) _)
  have hfk := hf (k * 3)
  obtain ⟨y, hy⟩ : ∃ y, y = (P.getD k z0).x := ⟨_, rfl⟩
  rw [← hy] at hx
  clear h hs hu hv hf hown hy
  go_enter Try.func38, Try.ntmps38
  go_wp2_with (go_at_call 46; refine H.out.mono ?_; rintro e w' ⟨rfl, rfl⟩)
  go_ret
  exact ⟨rfl, HS.out, HO.out⟩

set_option maxHeartbeats 400000 in
theorem give_nil (i : Int) : Calls Try.prog 22 #[.pointer none, .int .i64 i] w fun e w' => e = .returned (.bool false) ∧ w = w' := by
  go_enter Try.func22, Try.ntmps22
  go_wp2_with (go_at_call 46; refine (spot_nil i w).mono ?_; rintro e w' ⟨rfl, rfl⟩)
  go_ret
  exact ⟨rfl, rfl⟩

set_option maxHeartbeats 400000 in
theorem give_no (h : SLow w p v P most free n) (i : Int) (hi : i < 0 ∨ (P.length : Int) ≤ i ∨ (P.getD i.toNat z0).used = false) :
    Calls Try.prog 22 #[.pointer (some ⟨p, 0, none⟩), .int .i64 i] w fun e w' => e = .returned (.bool false) ∧ w = w' := by
  have H := Lib.hid (spot_no h i hi)
  clear h hi
  go_enter Try.func22, Try.ntmps22
  go_wp2_with (go_at_call 46; refine H.out.mono ?_; rintro e w' ⟨rfl, rfl⟩)
  go_ret
  exact ⟨rfl, rfl⟩

set_option maxHeartbeats 1000000 in
theorem give_yes (h : SLow w p v P most free n) (k : Nat) (hk : k < P.length) (hu : (P.getD k z0).used = true) (hn0 : 0 ≤ n) (hn : n ≤ 1024) :
    Calls Try.prog 22 #[.pointer (some ⟨p, 0, none⟩), .int .i64 k] w fun e w' => e = .returned (.bool true) ∧
      SLow w' p v (P.set k ⟨0, false, free⟩) most k (n - 1) ∧ Only (Foot p v) w w' := by
  obtain ⟨g, c, hv, hs⟩ := spot_at h k hk hu
  obtain ⟨g', hA, hpg, hown, hx, hu', hnx, hf⟩ := h.at_ hv k hk
  injection hA with hA
  injection hA with hA
  subst hA
  have H := Lib.hid hs
  have h1 : SLow (((w.setCell ⟨g, k * 3, none⟩ (.int .i64 0)).setCell ⟨g, k * 3 + 1, none⟩ (.bool false)).setCell ⟨g, k * 3 + 2, none⟩ (.int .i64 free)) p v (P.set k ⟨0, false, free⟩) most free n := by
    subst hv; exact h.setRow k ⟨0, false, free⟩
  have o1 : Only (Foot p v) w (((w.setCell ⟨g, k * 3, none⟩ (.int .i64 0)).setCell ⟨g, k * 3 + 1, none⟩ (.bool false)).setCell ⟨g, k * 3 + 2, none⟩ (.int .i64 free)) :=
    (((Only.refl _ w).setCell (.inl (.inr hown)) _).setCell (.inl (.inr hown)) _).setCell (.inl (.inr hown)) _
  have HS := Lib.hid ((h1.setFree k).setN (n - 1))
  have HO := Lib.hid ((o1.setCell (p := ⟨p, 2, none⟩) (.inl (.inl rfl)) (.int .i64 k)).setCell (p := ⟨p, 3, none⟩) (.inl (.inl rfl)) (.int .i64 (n - 1)))
  have hf0 := hf (k * 3)
  have hf1 := hf (k * 3 + 1)
  have hf2 := hf (k * 3 + 2)
  have c2 := h.c2
  have c3 := h.c3
  have z2 := h.fz 2
  have z3 := h.fz 3
  have n2 := h1.c2
  have n3 := (h1.setFree k).c3
  obtain ⟨y, hy⟩ : ∃ y, y = (P.getD k z0).x := ⟨_, rfl⟩
  obtain ⟨y2, hy2⟩ : ∃ y, y = (P.getD k z0).next := ⟨_, rfl⟩
  obtain ⟨y3, hy3⟩ : ∃ y, y = (P.getD k z0).used := ⟨_, rfl⟩
  rw [← hy] at hx
  rw [← hy2] at hnx
  rw [← hy3] at hu'
  clear h hs hu hv hf hown hy hy2 hy3 h1 o1
  go_enter Try.func22, Try.ntmps22
  go_wp2_with (go_at_call 46; refine H.out.mono ?_; rintro e w' ⟨rfl, rfl⟩)
  go_ret
  exact ⟨rfl, HS.out, HO.out⟩
end
end Go.Proofs.Ytjcmbddiffebhaa
