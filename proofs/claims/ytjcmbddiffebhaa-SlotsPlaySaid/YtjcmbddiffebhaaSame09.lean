/-
  kedgelaw09.same: the slots and the document's slots are the same.
-/
import Derived.Test.YtjcmbddiffebhaaRef09E
namespace Go.Proofs.Ytjcmbddiffebhaa
open Go.RowKit

def SameP (w : World) (e : Ending) (w' : World) : Prop := e = .returned (.bool true) ∧ Below w.heap.size w w'

set_option maxHeartbeats 4000000 in
theorem same9 {w : World} {p b : Nat} {s : St} {r : Value} (h : Slo w p s) (h9 : Ref9 w b s r) (i : Int) : Calls Try.prog 40 #[.pointer (some ⟨p, 0, none⟩), r, .int .i64 i] w (SameP w) := by
  have ok := h.ok
  have h9' := h9
  obtain ⟨vV, vI, vK, rfl, hV, hI, hK⟩ := h9
  obtain ⟨AV, cV, rfl⟩ := hV.shape
  obtain ⟨AI, cI, rfl⟩ := hI.shape
  obtain ⟨AK, cK, rfl⟩ := hK.shape
  rw [rV_len, rI_len, rK_len] at *
  have hb : Below w.heap.size w (w.alloc (.cells #[.slice AV s.most cV, .slice AI s.most cI, .slice AK s.B.length cK, .int .i64 (s.T.length : Nat)] 60)) := (Below.refl _ _).alloc (Nat.le_refl _) _
  have HB := Lib.hid hb
  have R := Lib.hid (h9'.below hb)
  have SL := Lib.hid (h.below hb)
  have OK := Lib.hid ok
  have T0 := Lib.hid (heap_alloc_new w (.cells #[.slice AV s.most cV, .slice AI s.most cI, .slice AK s.B.length cK, .int .i64 (s.T.length : Nat)] 60))
  clear hb hV hI hK h9' ok h
  go_enter Try.func40, Try.ntmps40
  go_wp2_with fail
  obtain ⟨w1, hw1⟩ : ∃ w1, w1 = w.alloc (.cells #[.slice AV s.most cV, .slice AI s.most cI, .slice AK s.B.length cK, .int .i64 (s.T.length : Nat)] 60) := ⟨_, rfl⟩
  obtain ⟨g0, hg0⟩ : ∃ g, g = w.heap.size := ⟨_, rfl⟩
  rw [← hw1] at HB R SL T0 ⊢
  rw [← hg0] at T0 ⊢
  clear hw1 hg0
  with_reducible refine (at_slo SL.out i).mono ?_
  rintro e w2 ⟨rfl, rfl⟩
  obtain ⟨xg, hxg⟩ : ∃ x, x = s.get i := ⟨_, rfl⟩
  obtain ⟨xh, hxh⟩ : ∃ x, x = s.has i := ⟨_, rfl⟩
  rw [← hxg, ← hxh]
  have HG := Lib.hid hxg
  have HH := Lib.hid hxh
  clear hxg hxh
  obtain ⟨k0, k1, k2, k3⟩ := four_of T0.out
  go_wp2_with fail
  with_reducible refine (refat9 R.out OK.out i).mono ?_
  rintro e w3 ⟨rfl, b3⟩
  rw [← HG.out, ← HH.out]
  have R3 := Lib.hid (R.out.below b3)
  have S3 := Lib.hid (SL.out.below b3)
  have B3 := Lib.hid (HB.out.trans (b3.mono HB.out.size))
  have T3 := Lib.hid ((b3.block _ (lt_of_block T0.out)).trans T0.out)
  clear b3 k0 k1 k2 k3
  obtain ⟨k0, k1, k2, k3⟩ := four_of T3.out
  go_wp2_with fail
  with_reducible refine (refused9 R3.out OK.out).mono ?_
  rintro e w4 ⟨v4, rfl, h4, b4⟩
  have R4 := Lib.hid (R3.out.below b4)
  have S4 := Lib.hid (S3.out.below b4)
  have B4 := Lib.hid (B3.out.trans (b4.mono B3.out.size))
  have T4 := Lib.hid ((b4.block _ (lt_of_block T3.out)).trans T3.out)
  obtain ⟨A4, c4, rfl⟩ := h4.shape
  have H4 := Lib.hid h4
  clear b4 h4 k0 k1 k2 k3
  have FR := Lib.hid (fun W (h : Below w4.heap.size w4 W) => S4.out.below h)
  have FH := Lib.hid (fun W (h : Below w4.heap.size w4 W) => H4.out.below h)
  have FC := Lib.hid (fun W (h : Below w4.heap.size w4 W) => four_of ((h.block _ (lt_of_block T4.out)).trans T4.out))
  have BW := Lib.hid (Below.refl w4.heap.size w4)
  obtain ⟨q0, _, _, _⟩ := FC.out _ BW.out
  have EQM := Lib.hid (show eqB s.used s.used = true by simp [eqB])
  have HL := Lib.hid (St.Ok.used_len OK.out)
  have f1 : (xg == xg) = true := by simp
  have f2 : (xh == xh) = true := by simp
  have f3 : ((s.used.length : Int) == (s.used.length : Int)) = true := by simp
  have f4 : ((s.most : Int) == (s.most : Int)) = true := by simp
  go_wp2_with fail
  go_region_held3 (fun W => W.cell? ⟨g0, 0, none⟩ = some (.slice AV s.most cV)) (go_keep)
    ((first
      | (go_at_call 34; (with_reducible refine (used_slo (FR.out _ ?_)).mono ?_); exact ⟨BW.out.os, BW.out.tape, BW.out.output, BW.out.size, BW.out.block⟩; rintro e w10 ⟨v10, rfl, h10, b10⟩; obtain ⟨A10, c10, rfl⟩ := h10.shape; have BT := Lib.hid (Below.refl w10.heap.size w10); have FT := Lib.hid (fun W (h : Below w10.heap.size w10 W) => h10.below h); have BW := Lib.hid (bw9_step (by exact ⟨BW.out.os, BW.out.tape, BW.out.output, BW.out.size, BW.out.block⟩) b10); obtain ⟨q0, _, _, _⟩ := FC.out _ BW.out; clear h10 b10)
      | (go_at_call 17; (with_reducible refine (ints_eq (FT.out _ ?_) (FH.out _ ?_) EQM.out).mono ?_); exact ⟨BT.out.os, BT.out.tape, BT.out.output, BT.out.size, BT.out.block⟩; exact ⟨BW.out.os, BW.out.tape, BW.out.output, BW.out.size, BW.out.block⟩; rintro e w11 ⟨rfl, q11, rfl⟩)
      | (go_at_call 24; (with_reducible refine (len_slo (FR.out _ ?_)).mono ?_); exact ⟨BW.out.os, BW.out.tape, BW.out.output, BW.out.size, BW.out.block⟩; rintro e w12 ⟨rfl, rfl⟩; rw [← HL.out])
      | (go_at_call 41; (with_reducible refine (cap_slo (FR.out _ ?_)).mono ?_); exact ⟨BW.out.os, BW.out.tape, BW.out.output, BW.out.size, BW.out.block⟩; rintro e w13 ⟨rfl, rfl⟩)))
  all_goals (try go_wp2_with fail)
  all_goals go_ret
  all_goals exact ⟨rfl, B4.out.trans (Below.mono ⟨BW.out.os, BW.out.tape, BW.out.output, BW.out.size, BW.out.block⟩ B4.out.size)⟩

end Go.Proofs.Ytjcmbddiffebhaa
