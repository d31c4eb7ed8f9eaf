/-
  SlotsNone's walk: one that was not made has no places.
-/
import Derived.Test.YtjcmbddiffebhaaSloE
namespace Go.Proofs.Ytjcmbddiffebhaa
open Go.RowKit

/-- nil, or one without places -/
def EmptyS (w : World) (v : Value) : Prop :=
  v = .pointer none ∨ ∃ p, v = .pointer (some ⟨p, 0, none⟩) ∧ SLow w p (.slice none 0 0) [] 0 0 0

theorem EmptyS.below {w w' : World} {v : Value} (h : EmptyS w v) (hb : Below w.heap.size w w') : EmptyS w' v := by
  rcases h with rfl | ⟨p, rfl, h1⟩
  · exact .inl rfl
  · exact .inr ⟨p, rfl, h1.below hb⟩
theorem EmptyS.drewN {w : World} {v : Value} (h : EmptyS w v) (q : Nat) : EmptyS (w.drewN q) v := by
  rcases h with rfl | ⟨p, rfl, h1⟩
  · exact .inl rfl
  · exact .inr ⟨p, rfl, h1.drewN q⟩

section
variable {w : World} {v : Value}
theorem take_emptyS (h : EmptyS w v) (x : Int) : Calls Try.prog 21 #[v, .int .i64 x] w fun e w' => e = .returned (.tuple #[.int .i64 0, .bool false]) ∧ ∃ q, w' = w.drewN q := by
  rcases h with rfl | ⟨p, rfl, h⟩
  · exact take_nil x
  · exact take_full x h.c1 h.c3 (by omega)
theorem no_place (i : Int) : i < 0 ∨ (([] : List Pl).length : Int) ≤ i ∨ (([] : List Pl).getD i.toNat z0).used = false := .inr (.inr rfl)
theorem at_emptyS (h : EmptyS w v) (i : Int) : Calls Try.prog 23 #[v, .int .i64 i] w fun e w' => e = .returned (.tuple #[.int .i64 0, .bool false]) ∧ w = w' := by
  rcases h with rfl | ⟨p, rfl, h⟩
  · exact at_nil i
  · exact at_no h i (no_place i)
theorem give_emptyS (h : EmptyS w v) (i : Int) : Calls Try.prog 22 #[v, .int .i64 i] w fun e w' => e = .returned (.bool false) ∧ w = w' := by
  rcases h with rfl | ⟨p, rfl, h⟩
  · exact give_nil i
  · exact give_no h i (no_place i)
theorem swap_emptyS (h : EmptyS w v) (i x : Int) : Calls Try.prog 38 #[v, .int .i64 i, .int .i64 x] w fun e w' => e = .returned (.bool false) ∧ w = w' := by
  rcases h with rfl | ⟨p, rfl, h⟩
  · exact swap_nil i x
  · exact swap_no h i x (no_place i)
theorem used_emptyS (h : EmptyS w v) : Calls Try.prog 34 #[v] w (FreshL w []) := by
  rcases h with rfl | ⟨p, rfl, h⟩
  · exact used_nil.mono fun e w' ⟨he, hw⟩ => by subst hw; exact ⟨_, he, Has.nil _ _, Below.refl _ _⟩
  · exact used_any h
theorem len_emptyS (h : EmptyS w v) : Calls Try.prog 24 #[v] w fun e w' => e = .returned (.int .i64 0) ∧ w = w' := by
  rcases h with rfl | ⟨p, rfl, h⟩
  · exact slen_nil w
  · exact slen_any p 0 w h.c3
theorem cap_emptyS (h : EmptyS w v) : Calls Try.prog 41 #[v] w fun e w' => e = .returned (.int .i64 0) ∧ w = w' := by
  rcases h with rfl | ⟨p, rfl, h⟩
  · exact scap_nil w
  · exact scap_any p 0 w h.c1
end

def NS (w w3 : World) (i : Value) (wr : World) : Prop :=
  ∃ k : Nat, k ≤ 2 ∧ i = .int .i64 k ∧ Below w.heap.size w wr ∧ Below w3.heap.size w3 wr

set_option maxHeartbeats 1000000 in
set_option maxRecDepth 100000 in
theorem none09_walk (i x : Int) (w : World) : Calls Try.prog 11 #[.int .i64 i, .int .i64 x] w (TrueNewS w) := by
  go_enter Try.func11, Try.ntmps11
  go_wp2_with fail
  with_reducible refine (awake09 w).mono ?_
  rintro e w1 ⟨rfl, b1⟩
  have B1 := Lib.hid b1
  clear b1
  go_wp2_with fail
  have d1 : Below w1.heap.size w1 (w1.alloc (.cells #[.slice none 0 0, .int .i64 0, .int .i64 0, .int .i64 0] 72)) := (Below.refl _ _).alloc (Nat.le_refl _) _
  obtain ⟨w2, hw2⟩ : ∃ w2, w2 = w1.alloc (.cells #[.slice none 0 0, .int .i64 0, .int .i64 0, .int .i64 0] 72) := ⟨_, rfl⟩
  have hs2 : w2.heap.size = w1.heap.size + 1 := by rw [hw2]; simp
  have t1 : w2.heap[w1.heap.size]? = some (.cells #[.slice none 0 0, .int .i64 0, .int .i64 0, .int .i64 0] 72 (0, 0)) := by rw [hw2]; exact heap_alloc_new w1 _
  rw [← hw2] at d1 ⊢
  have d2 : Below w2.heap.size w2 (w2.alloc (.cells #[.pointer none, .pointer (some ⟨w1.heap.size, 0, none⟩)] 32)) := (Below.refl _ _).alloc (Nat.le_refl _) _
  have t2 := heap_alloc_new w2 (.cells #[.pointer none, .pointer (some ⟨w1.heap.size, 0, none⟩)] 32)
  obtain ⟨p2, hp2⟩ : ∃ p2, p2 = w1.heap.size := ⟨_, rfl⟩
  have E2 : EmptyS w2 (.pointer (some ⟨p2, 0, none⟩)) := .inr ⟨p2, rfl, ⟨by omega, by simp, by rw [hp2]; exact t1, World.ownsRow_nil _ _ _ _⟩⟩
  rw [← hp2] at d2 t2 hs2 ⊢
  obtain ⟨w3, hw3⟩ : ∃ w3, w3 = w2.alloc (.cells #[.pointer none, .pointer (some ⟨p2, 0, none⟩)] 32) := ⟨_, rfl⟩
  rw [← hw3] at d2 t2 ⊢
  obtain ⟨g, hg⟩ : ∃ g, g = p2 + 1 := ⟨_, rfl⟩
  rw [hs2, ← hg] at t2
  rw [← hg]
  have F2 := Lib.hid (E2.below d2)
  have B3 := Lib.hid ((B1.out.trans (d1.mono B1.out.size)).trans (d2.mono (Nat.le_trans B1.out.size d1.size)))
  have T2 := Lib.hid t2
  clear d1 hw2 hs2 t1 d2 t2 hp2 E2 hw3 hg
  go_loopw [9] (fun i wr => NS w w3 i wr) (fun i _ => 2 - (intOf i).toNat)
  case atStart => exact ⟨0, by omega, rfl, B3.out, Below.refl _ _⟩
  case round =>
    obtain ⟨k, hk, rfl, b4, c4⟩ := hrel
    have B4 := Lib.hid b4
    have C4 := Lib.hid c4
    by_cases hlt : k < 2
    · have hblk : wr.heap[g]? = some (.cells #[.pointer none, .pointer (some ⟨p2, 0, none⟩)] 32 (0, 0)) := (c4.block g (lt_of_block T2.out)).trans T2.out
      have HBK := Lib.hid hblk
      obtain ⟨v, hc, hE⟩ : ∃ v, (∀ W : World, W.heap[g]? = some (.cells #[.pointer none, .pointer (some ⟨p2, 0, none⟩)] 32 (0, 0)) → W.cell? ⟨g, k, none⟩ = some v) ∧ EmptyS wr v := by
        match k, hlt with
        | 0, _ => exact ⟨.pointer none, fun W h => by simp only [World.cell?, h]; rfl, .inl rfl⟩
        | 1, _ => exact ⟨.pointer (some ⟨p2, 0, none⟩), fun W h => by simp only [World.cell?, h]; rfl, F2.out.below c4⟩
      have HC := Lib.hid hc
      have HE := Lib.hid hE
      have h1 := hc wr hblk
      have g1 : (0 : Int) ≤ (k : Int) := by omega
      have g2 : (k : Int) < 2 := by omega
      clear b4 c4 hblk hc hE
      go_wp2_with fail
      with_reducible refine (take_emptyS HE.out x).mono ?_
      rintro e w5 ⟨rfl, q, rfl⟩
      go_wp2_with (first | (go_at_call 23; refine (at_emptyS (HE.out.drewN q) i).mono ?_; rintro e w' ⟨rfl, rfl⟩) | (go_at_call 22; refine (give_emptyS (HE.out.drewN q) i).mono ?_; rintro e w' ⟨rfl, rfl⟩) | (go_at_call 38; refine (swap_emptyS (HE.out.drewN q) i x).mono ?_; rintro e w' ⟨rfl, rfl⟩))
      with_reducible refine (used_emptyS (HE.out.drewN q)).mono ?_
      rintro e w6 ⟨v6, rfl, h6, b6⟩
      obtain ⟨A6, c6, rfl⟩ := h6.shape
      have B6 := Lib.hid ((s_below_drewN B4.out q).trans (b6.mono B4.out.size))
      have C6 := Lib.hid ((s_below_drewN C4.out q).trans (b6.mono C4.out.size))
      have E6 := Lib.hid ((HE.out.drewN q).below b6)
      have h2 := HC.out w6 ((b6.block g (lt_of_block HBK.out)).trans HBK.out)
      clear h6 b6 h1
      go_wp2_with (first | (go_at_call 24; refine (len_emptyS E6.out).mono ?_; rintro e w' ⟨rfl, rfl⟩) | (go_at_call 41; refine (cap_emptyS E6.out).mono ?_; rintro e w' ⟨rfl, rfl⟩))
      go_roundw
      case rel => exact ⟨k + 1, hlt, by go_num, B6.out, C6.out⟩
      case measure => simp [intOf]; omega
    · clear b4 c4
      go_wp2_with fail
      go_ret
      exact ⟨rfl, B4.out⟩

end Go.Proofs.Ytjcmbddiffebhaa
