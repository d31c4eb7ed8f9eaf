/-
  kedgelaw10.awake and do.
-/
import Derived.Test.YtjcmbddiffebhaaRecD
import Derived.Test.YtjcmbddiffebhaaInts
namespace Go.Proofs.Ytjcmbddiffebhaa
open Go.RowKit

/-- a literal list -/
theorem Has.lit (w : World) (L : List Int) (base : Nat) (hb : base ≤ w.heap.size) (hl : L.length ≤ 1000000) :
    Has (w.alloc (.cells (ints L).toArray 3)) base (.slice (some ⟨w.heap.size, 0, none⟩) L.length L.length) L := by
  have h := World.ownsRow_lit (base := base) (e := 3) (size := 1) w (ints L).toArray L.length hb (by simp only [maxLen]; omega) (by simp)
  simpa [Has] using h

theorem in3_below {w0 w w' : World} {lo : Nat} (h : Only (In3 lo) w w') (hb : Below w0.heap.size w0 w) (hl : w0.heap.size ≤ lo) : Below w0.heap.size w0 w' :=
  hb.trans (h.below hb.size fun k hk => by unfold In3 at hk; omega)

theorem below_drewN {B : Nat} {w w' : World} (h : Below B w w') (n : Nat) : Below B w (w'.drewN n) := ⟨h.os, h.tape, h.output, h.size, h.block⟩

def TrueNew (w : World) (e : Ending) (w' : World) : Prop := e = .returned (.bool true) ∧ Below w.heap.size w w'

set_option maxHeartbeats 1000000 in
theorem awake10 (w : World) : Calls Try.prog 13 #[] w (TrueNew w) := by
  go_enter Try.func13, Try.ntmps13
  go_wp2_with fail
  refine (new_rec 9 w).mono ?_
  rintro e w1 ⟨rfl, r1, b1, _⟩
  have R1 := Lib.hid r1
  have B1 := Lib.hid b1
  clear r1 b1
  go_wp2_with fail
  refine (touch_rec R1.out 1).mono ?_
  rintro e w2 ⟨rfl, r2, o2⟩
  have R2 := Lib.hid r2
  have B2 := Lib.hid (in3_below o2 B1.out (Nat.le_refl _))
  clear r2 o2
  go_wp2_with fail
  refine (touch_rec R2.out 2).mono ?_
  rintro e w3 ⟨rfl, r3, o3⟩
  have R3 := Lib.hid r3
  have B3 := Lib.hid (in3_below o3 B2.out (Nat.le_refl _))
  clear r3 o3
  go_wp2_with fail
  refine (touch_rec R3.out 3).mono ?_
  rintro e w4 ⟨rfl, r4, o4⟩
  have R4 := Lib.hid r4
  have B4 := Lib.hid (in3_below o4 B3.out (Nat.le_refl _))
  clear r4 o4
  go_wp2_with fail
  refine (touch_rec R4.out 1).mono ?_
  rintro e w5 ⟨rfl, r5, o5⟩
  have e5 : tch (clamp 9) (tch (clamp 9) (tch (clamp 9) (tch (clamp 9) [] 1) 2) 3) 1 = [1, 3, 2] := by decide
  rw [e5] at r5
  have R5 := Lib.hid r5
  have B5 := Lib.hid (in3_below o5 B4.out (Nat.le_refl _))
  clear r5 o5 e5
  have m5 : mayB (clamp 9) 1 = true := by decide
  rw [m5]
  clear m5
  go_wp2_with fail
  refine (last_rec R5.out).mono ?_
  rintro e w6 ⟨rfl, q, rfl⟩
  have l6 : lastI [1, 3, 2] = 2 := by decide
  have s6 : someB [1, 3, 2] = true := by decide
  rw [l6, s6]
  clear l6 s6
  go_wp2_with fail
  refine (order_rec (R5.out.drewN q)).mono ?_
  rintro e w7 ⟨v, rfl, h7, b7⟩
  have B7 := Lib.hid ((below_drewN B5.out q).trans (b7.mono B5.out.size))
  have R7 := Lib.hid ((R5.out.drewN q).below b7)
  have H7 := Lib.hid h7
  clear h7 b7
  go_wp2_with fail
  refine (ints_any (L := [1, 3, 2]) (M := [1, 3, 2]) (H7.out.alloc _) (Has.lit w7 [1, 3, 2] w7.heap.size (Nat.le_refl _) (by decide))).mono ?_
  rintro e w8 ⟨rfl, q2, rfl⟩
  have e8 : eqB [1, 3, 2] [1, 3, 2] = true := by decide
  rw [e8]
  clear e8
  go_wp2_with fail
  refine (len_rec ((R7.out.below ((Below.refl _ _).alloc (Nat.le_refl _) _)).drewN q2)).mono ?_
  rintro e w9 ⟨rfl, rfl⟩
  go_wp2_with fail
  go_ret
  exact ⟨rfl, below_drewN (B7.out.alloc B7.out.size _) q2⟩

/-- what a deed leaves -/
def act (m : Nat) (L : List Int) (out : Bool) (i : Int) : List Int := if out then wo L i else tch m L i
def actB (m : Nat) (L : List Int) (out : Bool) (i : Int) : Bool := if out then inB L i else mayB m i
def ActPost (w : World) (lo m : Nat) (L : List Int) (out : Bool) (i : Int) (e : Ending) (w' : World) : Prop :=
  e = .returned (.bool (actB m L out i)) ∧ Rec w' lo m (act m L out i) ∧ Only (In3 lo) w w'

set_option maxHeartbeats 400000 in
theorem do_rec {w : World} {lo m : Nat} {L : List Int} (h : Rec w lo m L) (out : Bool) (i : Int) :
    Calls Try.prog 26 #[.pointer (some ⟨lo + 2, 0, none⟩), .agg #[.bool out, .int .i64 i]] w (ActPost w lo m L out i) := by
  have H := Lib.hid h
  clear h
  have hb : Below w.heap.size w (w.alloc (.cells #[.bool out, .int .i64 i] 46)) := (Below.refl _ _).alloc (Nat.le_refl _) _
  have HB := Lib.hid hb
  clear hb
  cases out
  · go_enter Try.func26, Try.ntmps26
    go_wp2_with fail
    refine (touch_rec (H.out.below HB.out) i).mono ?_
    rintro e w2 ⟨rfl, r2, o2⟩
    have R := Lib.hid r2
    have O := Lib.hid o2
    clear r2 o2
    go_wp2_with fail
    go_ret
    exact ⟨rfl, R.out, (Only.ofBelow HB.out).trans O.out⟩
  · go_enter Try.func26, Try.ntmps26
    go_wp2_with fail
    refine (drop_rec (H.out.below HB.out) i).mono ?_
    rintro e w2 ⟨rfl, r2, o2⟩
    have R := Lib.hid r2
    have O := Lib.hid o2
    clear r2 o2
    go_wp2_with fail
    go_ret
    exact ⟨rfl, R.out, (Only.ofBelow HB.out).trans O.out⟩

theorem has_eq {w : World} {lo m : Nat} {L : List Int} {i : Int} {b : Bool} (h : Rec w lo m L) (hb : inB L i = b) :
    Calls Try.prog 16 #[.pointer (some ⟨lo + 2, 0, none⟩), .int .i64 i] w fun e w' => e = .returned (.bool b) ∧ w' = w :=
  (has_rec h i).mono fun _ _ h => ⟨by rw [h.1, hb], h.2.symm⟩

end Go.Proofs.Ytjcmbddiffebhaa
