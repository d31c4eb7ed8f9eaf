/-
  RecencyNone's walk: one that was not made has none, and none may be there.
-/
import Derived.Test.YtjcmbddiffebhaaRecE
import Derived.Test.YtjcmbddiffebhaaArgs
namespace Go.Proofs.Ytjcmbddiffebhaa
open Go.RowKit

/-- nil, or a list in which nothing may be -/
def Empty (w : World) (v : Value) : Prop :=
  v = .pointer none ∨ ∃ p A, v = .pointer (some ⟨p, 0, none⟩) ∧ w.cell? ⟨p, 1, none⟩ = some (.slice A 0 0) ∧ w.cell? ⟨p, 2, none⟩ = some (.int .i64 0)

theorem Empty.below {w w' : World} {v : Value} (h : Empty w v) (hb : Below w.heap.size w w') : Empty w' v := by
  rcases h with rfl | ⟨p, A, rfl, h1, h2⟩
  · exact .inl rfl
  · exact .inr ⟨p, A, rfl, (Only.ofBelow (S := fun _ => False) hb).cell' h1 (fun h => h), (Only.ofBelow (S := fun _ => False) hb).cell' h2 (fun h => h)⟩

section
variable {w : World} {v : Value}

theorem touch_empty (h : Empty w v) (i : Int) : Calls Try.prog 15 #[v, .int .i64 i] w fun e w' => e = .returned (.bool false) ∧ w = w' := by
  rcases h with rfl | ⟨p, A, rfl, h1, h2⟩
  · exact touch_nil i
  · exact touch_no (m := 0) A i (by omega) (by omega) h1

theorem drop_empty (h : Empty w v) (i : Int) : Calls Try.prog 33 #[v, .int .i64 i] w fun e w' => e = .returned (.bool false) ∧ w = w' := by
  rcases h with rfl | ⟨p, A, rfl, h1, h2⟩
  · exact drop_nil i
  · exact drop_no (m := 0) A i (by omega) (by omega) h1

theorem has_empty (h : Empty w v) (i : Int) : Calls Try.prog 16 #[v, .int .i64 i] w fun e w' => e = .returned (.bool false) ∧ w = w' := by
  rcases h with rfl | ⟨p, A, rfl, h1, h2⟩
  · exact has_nil i
  · exact has_no (m := 0) A i (by omega) (by omega) h1

theorem last_empty (h : Empty w v) : Calls Try.prog 29 #[v] w fun e w' => e = .returned (.tuple #[.int .i64 0, .bool false]) ∧ w = w' := by
  rcases h with rfl | ⟨p, A, rfl, h1, h2⟩
  · exact last_nil
  · exact last_none h2

theorem len_empty (h : Empty w v) : Calls Try.prog 31 #[v] w fun e w' => e = .returned (.int .i64 0) ∧ w = w' := by
  rcases h with rfl | ⟨p, A, rfl, h1, h2⟩
  · exact len_nil w
  · exact len_any p 0 w h2

theorem order_empty (h : Empty w v) : Calls Try.prog 18 #[v] w fun e w' => e = .returned (.slice none 0 0) ∧ w = w' := by
  rcases h with rfl | ⟨p, A, rfl, h1, h2⟩
  · exact order_nil w
  · go_enter Try.func18, Try.ntmps18
    go_wp2
    refine wp_loop_rounds 1 ?_
    rw [rounds_succ]
    go_wp2_with (go_at_call 31; refine (len_any p 0 w h2).mono ?_; rintro e w' ⟨rfl, rfl⟩)
    go_ret
    exact ⟨rfl, rfl⟩
end

def NL (w5 : World) (i : Value) (wr : World) : Prop := ∃ k : Nat, k ≤ 3 ∧ i = .int .i64 k ∧ wr = w5

set_option maxHeartbeats 1000000 in
set_option maxRecDepth 100000 in
theorem none10_walk (i : Int) (w : World) : Calls Try.prog 6 #[.int .i64 i] w (TrueNew w) := by
  go_enter Try.func6, Try.ntmps6
  go_wp2_with fail
  with_reducible refine (awake10 w).mono ?_
  rintro e w1 ⟨rfl, b1⟩
  have B1 := Lib.hid b1
  clear b1
  go_wp2_with fail
  with_reducible refine (new_rec 0 _).mono ?_
  rintro e w2 ⟨rfl, r2, b2, s2⟩
  clear s2
  have ha : Below w1.heap.size w1 (w1.alloc (.cells #[.slice none 0 0, .slice none 0 0, .int .i64 0] 55)) := (Below.refl _ _).alloc (Nat.le_refl _) _
  have B2 := Lib.hid ((B1.out.trans (ha.mono B1.out.size)).trans (b2.mono (Nat.le_trans B1.out.size ha.size)))
  have t0 := heap_alloc_new w1 (.cells #[.slice none 0 0, .slice none 0 0, .int .i64 0] 55)
  have E2 : Empty w2 (.pointer (some ⟨w1.heap.size, 0, none⟩)) :=
    Empty.below (.inr ⟨w1.heap.size, none, rfl, by simp only [World.cell?, t0]; rfl, by simp only [World.cell?, t0]; rfl⟩) b2
  obtain ⟨lo, hlo⟩ : ∃ lo, lo = (w1.alloc (.cells #[.slice none 0 0, .slice none 0 0, .int .i64 0] 55)).heap.size := ⟨_, rfl⟩
  rw [← hlo] at r2 ⊢
  have E3 : Empty w2 (.pointer (some ⟨lo + 2, 0, none⟩)) := by
    obtain ⟨bl, bi, ah, bh, is, _, hl, _⟩ := r2
    exact .inr ⟨lo + 2, _, rfl, hl.c1, hl.c2⟩
  obtain ⟨q2, hv2⟩ : ∃ v, v = w1.heap.size := ⟨_, rfl⟩
  obtain ⟨q3, hv3⟩ : ∃ v, v = lo + 2 := ⟨_, rfl⟩
  rw [← hv2] at E2 ⊢
  rw [← hv3] at E3 ⊢
  have EE1 := Lib.hid (show Empty w2 (.pointer none) from .inl rfl)
  have EE2 := Lib.hid E2
  have EE3 := Lib.hid E3
  clear ha t0 E2 E3 r2 b2 hlo hv2 hv3
  go_wp2_with fail
  have h3 : Below w2.heap.size w2 (w2.alloc (.cells #[.pointer none, .pointer (some ⟨q2, 0, none⟩), .pointer (some ⟨q3, 0, none⟩)] 24)) := (Below.refl _ _).alloc (Nat.le_refl _) _
  have t3 := heap_alloc_new w2 (.cells #[.pointer none, .pointer (some ⟨q2, 0, none⟩), .pointer (some ⟨q3, 0, none⟩)] 24)
  have C1 := Lib.hid (show (w2.alloc (.cells #[.pointer none, .pointer (some ⟨q2, 0, none⟩), .pointer (some ⟨q3, 0, none⟩)] 24)).cell? ⟨w2.heap.size, 0, none⟩ = some (.pointer none) by simp only [World.cell?, t3]; rfl)
  have C2 := Lib.hid (show (w2.alloc (.cells #[.pointer none, .pointer (some ⟨q2, 0, none⟩), .pointer (some ⟨q3, 0, none⟩)] 24)).cell? ⟨w2.heap.size, 1, none⟩ = some (.pointer (some ⟨q2, 0, none⟩)) by simp only [World.cell?, t3]; rfl)
  have C3 := Lib.hid (show (w2.alloc (.cells #[.pointer none, .pointer (some ⟨q2, 0, none⟩), .pointer (some ⟨q3, 0, none⟩)] 24)).cell? ⟨w2.heap.size, 2, none⟩ = some (.pointer (some ⟨q3, 0, none⟩)) by simp only [World.cell?, t3]; rfl)
  have F1 := Lib.hid (EE1.out.below h3)
  have F2 := Lib.hid (EE2.out.below h3)
  have F3 := Lib.hid (EE3.out.below h3)
  have B3 := Lib.hid (B2.out.trans (h3.mono B2.out.size))
  obtain ⟨g, hg⟩ : ∃ g, g = w2.heap.size := ⟨_, rfl⟩
  obtain ⟨w3, hw3⟩ : ∃ w3, w3 = w2.alloc (.cells #[.pointer none, .pointer (some ⟨q2, 0, none⟩), .pointer (some ⟨q3, 0, none⟩)] 24) := ⟨_, rfl⟩
  rw [← hw3] at C1 C2 C3 F1 F2 F3 B3 ⊢
  rw [← hg] at C1 C2 C3 ⊢
  clear h3 t3 hw3 hg
  go_loopw [7] (fun i wr => NL w3 i wr) (fun i _ => 3 - (intOf i).toNat)
  case atStart => exact ⟨0, by omega, rfl, rfl⟩
  case round =>
    obtain ⟨k, hk, rfl, rfl⟩ := hrel
    by_cases hlt : k < 3
    · obtain ⟨v, hc, hE⟩ : ∃ v, wr.cell? ⟨g, k, none⟩ = some v ∧ Hid (Empty wr v) := by
        match k, hlt with
        | 0, _ => exact ⟨_, C1.out, F1⟩
        | 1, _ => exact ⟨_, C2.out, F2⟩
        | 2, _ => exact ⟨_, C3.out, F3⟩
      have g1 : (0 : Int) ≤ (k : Int) := by omega
      have g2 : (k : Int) < 3 := by omega
      go_wp2_with (first | (go_at_call 29; refine (last_empty hE.out).mono ?_; rintro e w' ⟨rfl, rfl⟩) | (go_at_call 15; refine (touch_empty hE.out i).mono ?_; rintro e w' ⟨rfl, rfl⟩) | (go_at_call 33; refine (drop_empty hE.out i).mono ?_; rintro e w' ⟨rfl, rfl⟩) | (go_at_call 16; refine (has_empty hE.out i).mono ?_; rintro e w' ⟨rfl, rfl⟩) | (go_at_call 18; refine (order_empty hE.out).mono ?_; rintro e w' ⟨rfl, rfl⟩) | (go_at_call 31; refine (len_empty hE.out).mono ?_; rintro e w' ⟨rfl, rfl⟩))
      go_roundw
      case rel => exact ⟨k + 1, hlt, by go_num, rfl⟩
      case measure => simp [intOf]; omega
    · go_wp2_with fail
      go_ret
      exact ⟨rfl, B3.out⟩

end Go.Proofs.Ytjcmbddiffebhaa
