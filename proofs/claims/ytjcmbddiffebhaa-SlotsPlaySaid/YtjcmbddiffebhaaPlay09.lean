/-
  SlotsPlay's walk: the slots play as the document's own slots do.
-/
import Derived.Test.YtjcmbddiffebhaaSame09
import Derived.Deep.DeepCutAuto
namespace Go.Proofs.Ytjcmbddiffebhaa
open Go.RowKit

/-- the document's struct, in a block of its own -/
def Box9 (w : World) (gb b : Nat) (s : St) : Prop :=
  ∃ vV vI vK, w.heap[gb]? = some (.cells #[vV, vI, vK, .int .i64 (s.T.length : Nat)] 60 (0, 0)) ∧ HasE w b vV (rV s) ∧ HasB w b vI (rI s) ∧ HasE w b vK (rK s)

theorem Box9.below {w w' : World} {gb b : Nat} {s : St} (h : Box9 w gb b s) (o : Below w.heap.size w w') : Box9 w' gb b s := by
  obtain ⟨vV, vI, vK, t, h1, h2, h3⟩ := h
  exact ⟨vV, vI, vK, (o.block _ (lt_of_block t)).trans t, h1.below o, h2.below o, h3.below o⟩
theorem Box9.skept {w w' : World} {gb b p : Nat} {s : St} (h : Box9 w gb b s) (o : SKept p w w') : Box9 w' gb b s := by
  obtain ⟨vV, vI, vK, t, h1, h2, h3⟩ := h
  exact ⟨vV, vI, vK, (o.rows _ _ _ t (by decide) (by decide)).trans t, Lst.skept h1 o (by decide) (by decide), Lst.skept h2 o (by decide) (by decide), Lst.skept h3 o (by decide) (by decide)⟩

/-- a struct is stored into the block -/
theorem box9_set {w : World} {gb b p : Nat} {s s' : St} {vV vI vK x y z t : Value} (hg : w.heap[gb]? = some (.cells #[x, y, z, t] 60 (0, 0))) (hs : Slo w p s) (h : Ref9 w b s' (.agg #[vV, vI, vK, .int .i64 (s'.T.length : Nat)])) :
    Slo ((((w.setCell ⟨gb, 0, none⟩ vV).setCell ⟨gb, 1, none⟩ vI).setCell ⟨gb, 2, none⟩ vK).setCell ⟨gb, 3, none⟩ (.int .i64 (s'.T.length : Nat))) p s ∧
    Box9 ((((w.setCell ⟨gb, 0, none⟩ vV).setCell ⟨gb, 1, none⟩ vI).setCell ⟨gb, 2, none⟩ vK).setCell ⟨gb, 3, none⟩ (.int .i64 (s'.T.length : Nat))) gb b s' := by
  refine ⟨hs.only (only_four w gb _ _ _ _) ?_, ?_⟩
  · intro k c t' hk e
    subst e
    rw [hg] at hk
    injection hk with hk
    injection hk with _ ht
    rw [← ht]; exact ⟨by decide, by decide⟩
  · obtain ⟨_, _, _, e, h1, h2, h3⟩ := h
    injection e with e
    injection e with e
    simp at e
    obtain ⟨rfl, rfl, rfl⟩ := e
    exact ⟨_, _, _, set_four hg, lst_four hg h1 (by decide), lst_four hg h2 (by decide), lst_four hg h3 (by decide)⟩

/-- the act's block stays as it is -/
theorem act_four {w : World} {gb go : Nat} {c d : Array Value} (x y z t : Value) (hg : w.heap[gb]? = some (.cells c 60 (0, 0))) (h : w.heap[go]? = some (.cells d 35 (0, 0))) :
    ((((w.setCell ⟨gb, 0, none⟩ x).setCell ⟨gb, 1, none⟩ y).setCell ⟨gb, 2, none⟩ z).setCell ⟨gb, 3, none⟩ t).heap[go]? = some (.cells d 35 (0, 0)) := by
  refine ((only_four w gb x y z t).block go (lt_of_block h) ?_).trans h
  intro e
  have e : go = gb := e
  subst e
  rw [hg] at h
  injection h with h
  injection h with _ ht
  exact absurd ht (by decide)

def QL (w : World) (p gb : Nat) (Z : List (Int × Int × Int)) (i : Value) (wr : World) : Prop :=
  ∃ (k : Nat) (s : St), k ≤ Z.length ∧ i = .int .i64 k ∧ Slo wr p s ∧ Box9 wr gb w.heap.size s ∧ Below w.heap.size w wr

set_option maxHeartbeats 4000000 in
set_option maxRecDepth 100000 in
theorem play09_walk (most : Int) (A : Option Addr) (c : Nat) (Z : List (Int × Int × Int)) (i0 : Int) (w : World) (hZ : Z.length ≤ 9223372036854775807) (hr : ReadsB w A Z) :
    Calls Try.prog 10 #[.int .i64 most, .slice A Z.length c, .int .i64 i0] w (TrueNewS w) := by
  have HR := Lib.hid hr
  clear hr
  go_enter Try.func10, Try.ntmps10
  go_wp2_with fail
  with_reducible refine (awake09 w).mono ?_
  rintro e w1 ⟨rfl, b1⟩
  have B1 := Lib.hid b1
  clear b1
  by_cases hlen : Z.length ≤ 100
  · go_wp2_with fail
    with_reducible refine (new_slo most).mono ?_
    rintro e w2 ⟨rfl, s2, b2⟩
    obtain ⟨p, hp⟩ : ∃ p, p = w1.heap.size := ⟨_, rfl⟩
    have hwp : w.heap.size ≤ p := by rw [hp]; exact B1.out.size
    have B2 := Lib.hid (B1.out.trans (b2.mono B1.out.size))
    rw [← hp] at s2 ⊢
    have S2 := Lib.hid s2
    clear s2 b2 hp
    go_wp2_with fail
    with_reducible refine (refnew9 most w2 w.heap.size B2.out.size).mono ?_
    rintro e w3 ⟨v3, rfl, r3, b3⟩
    obtain ⟨vV, vI, vK, rfl, hV, hI, hK⟩ := r3
    obtain ⟨AV, cV, rfl⟩ := hV.shape
    obtain ⟨AI, cI, rfl⟩ := hI.shape
    obtain ⟨AK, cK, rfl⟩ := hK.shape
    have hA := (Below.refl w3.heap.size w3).alloc (Nat.le_refl _) (.cells #[.slice AV (rV ⟨[], [], kap most⟩).length cV, .slice AI (rI ⟨[], [], kap most⟩).length cI, .slice AK (rK ⟨[], [], kap most⟩).length cK, .int .i64 0] 60)
    have Q0 := Lib.hid (show QL w p w3.heap.size Z (.int .i64 0) (w3.alloc (.cells #[.slice AV (rV ⟨[], [], kap most⟩).length cV, .slice AI (rI ⟨[], [], kap most⟩).length cI, .slice AK (rK ⟨[], [], kap most⟩).length cK, .int .i64 0] 60)) from
      ⟨0, ⟨[], [], kap most⟩, Nat.zero_le _, rfl, (S2.out.below b3).below hA, ⟨_, _, _, heap_alloc_new w3 _, hV.below hA, hI.below hA, hK.below hA⟩, (B2.out.trans (b3.mono B2.out.size)).trans (hA.mono (Below.size (B2.out.trans (b3.mono B2.out.size))))⟩)
    have hgw : w.heap.size ≤ w3.heap.size := Nat.le_trans B2.out.size b3.size
    clear hV hI hK hA b3
    go_wp2_with fail
    simp only [rV_len, rI_len, rK_len] at Q0 ⊢
    generalize (w3.alloc (.cells #[.slice AV (St.most ⟨[], [], kap most⟩) cV, .slice AI (St.most ⟨[], [], kap most⟩) cI, .slice AK (List.length (St.B ⟨[], [], kap most⟩)) cK, .int .i64 0] 60)) = W3 at Q0 ⊢
    obtain ⟨gb, hgb⟩ : ∃ g, g = w3.heap.size := ⟨_, rfl⟩
    rw [← hgb] at Q0 hgw ⊢
    clear hgb
    go_loopw [10] (fun i wr => QL w p gb Z i wr) (fun i _ => Z.length - (intOf i).toNat)
    case atStart => exact Q0.out
    case round =>
      obtain ⟨k, s, hk, rfl, sl, bx, bw⟩ := hrel
      have S3 := Lib.hid sl
      have X3 := Lib.hid bx
      have B3 := Lib.hid bw
      clear sl bx bw
      by_cases hlt : k < Z.length
      · obtain ⟨b, off, rfl, hb, hc0, hc1, hc2⟩ := HR.out k hlt
        obtain ⟨⟨kd, ix, xv⟩, hx⟩ : ∃ a, a = Z.getD k (0, 0, 0) := ⟨_, rfl⟩
        rw [← hx] at hc0 hc1 hc2
        clear hx
        have e0 := (B3.out.cell (p := ⟨b, off + k * 3, none⟩) hb).trans hc0
        have e1 := (B3.out.cell (p := ⟨b, off + k * 3 + 1, none⟩) hb).trans hc1
        have e2 := (B3.out.cell (p := ⟨b, off + k * 3 + 2, none⟩) hb).trans hc2
        have g1 : (0 : Int) ≤ (k : Int) := by omega
        have g2 : (k : Int) < (Z.length : Int) := by omega
        clear hc0 hc1 hc2
        go_upto_region 10 with fail
        have hA := (Below.refl wr.heap.size wr).alloc (Nat.le_refl _) (.cells #[.int .i64 kd, .int .i64 ix, .int .i64 xv] 35)
        have TO := Lib.hid (heap_alloc_new wr (.cells #[.int .i64 kd, .int .i64 ix, .int .i64 xv] 35))
        have S4 := Lib.hid (S3.out.below hA)
        have X4 := Lib.hid (X3.out.below hA)
        have B4 := Lib.hid (B3.out.trans (hA.mono B3.out.size))
        clear hA e0 e1 e2
        generalize (wr.alloc (.cells #[.int .i64 kd, .int .i64 ix, .int .i64 xv] 35)) = W4 at TO S4 X4 B4 ⊢
        obtain ⟨go, hgo⟩ : ∃ g, g = wr.heap.size := ⟨_, rfl⟩
        rw [← hgo] at TO ⊢
        clear hgo
        have OKs := Lib.hid S4.out.ok
        by_cases h0 : kd = 0
        · have f0 : (kd == 0) = true := by simp [h0]
          have t0 : W4.cell? ⟨go, 0, none⟩ = some (.int .i64 kd) ∧ W4.cell? ⟨go, 1, none⟩ = some (.int .i64 ix) ∧ W4.cell? ⟨go, 2, none⟩ = some (.int .i64 xv) := by simp [World.cell?, TO.out]
          obtain ⟨a0, a1, a2⟩ := t0
          go_wp2_with fail
          with_reducible refine (take_slo S4.out xv).mono ?_
          rintro e w5 ⟨rfl, s5, k5⟩
          have S5 := Lib.hid s5
          have X5 := Lib.hid (X4.out.skept k5)
          have B5 := Lib.hid (sk_below k5 B4.out hwp)
          have TO5 := Lib.hid ((k5.rows _ _ _ TO.out (by decide) (by decide)).trans TO.out)
          clear s5 k5 a0 a1 a2
          obtain ⟨uV, uI, uK, t5, hV, hI, hK⟩ := X5.out
          obtain ⟨AX, dX, rfl⟩ := hV.shape' (rV_len s)
          obtain ⟨AY, dY, rfl⟩ := hI.shape' (rI_len s)
          obtain ⟨AZ, dZ, rfl⟩ := hK.shape' (rK_len s)
          obtain ⟨k0, k1, k2, k3⟩ := four_of t5
          have R5 := Lib.hid (show Ref9 w5 w.heap.size s (.agg #[.slice AX s.most dX, .slice AY s.most dY, .slice AZ s.B.length dZ, .int .i64 (s.T.length : Nat)]) from ⟨_, _, _, rfl, hV, hI, hK⟩)
          have T5 := Lib.hid t5
          have t1 : w5.cell? ⟨go, 0, none⟩ = some (.int .i64 kd) ∧ w5.cell? ⟨go, 1, none⟩ = some (.int .i64 ix) ∧ w5.cell? ⟨go, 2, none⟩ = some (.int .i64 xv) := by simp [World.cell?, TO5.out]
          obtain ⟨a0, a1, a2⟩ := t1
          clear t5 hV hI hK
          go_wp2_with fail
          with_reducible refine (reftake9 R5.out OKs.out B5.out.size xv).mono ?_
          rintro e w6 ⟨v6, rfl, r6, b6⟩
          obtain ⟨s', hs'⟩ : ∃ s', s' = s.take xv := ⟨_, rfl⟩
          rw [← hs'] at r6 S5
          clear hs' k0 k1 k2 k3 a0 a1 a2
          have S6 := Lib.hid (S5.out.below b6)
          have T6 := Lib.hid ((b6.block _ (lt_of_block T5.out)).trans T5.out)
          have TO6 := Lib.hid ((b6.block _ (lt_of_block TO5.out)).trans TO5.out)
          have B6 := Lib.hid (B5.out.trans (b6.mono B5.out.size))
          obtain ⟨vV6, vI6, vK6, rfl, hV, hI, hK⟩ := r6
          obtain ⟨A6, c6, rfl⟩ := hV.shape' (rV_len s')
          obtain ⟨A7, c7, rfl⟩ := hI.shape' (rI_len s')
          obtain ⟨A8, c8, rfl⟩ := hK.shape' (rK_len s')
          have R6 := Lib.hid (show Ref9 w6 w.heap.size s' (.agg #[.slice A6 s'.most c6, .slice A7 s'.most c7, .slice A8 s'.B.length c8, .int .i64 (s'.T.length : Nat)]) from ⟨_, _, _, rfl, hV, hI, hK⟩)
          clear hV hI hK b6 B4 TO S4 X4
          have feq : ((!s.full) != (!s.full)) = false := by simp
          have feq2 : (takeI s != takeI s) = false := by simp
          go_upto_region 21 with fail
          have hA := (Below.refl w6.heap.size w6).alloc (Nat.le_refl _) (.cells #[.slice A6 s'.most c6, .slice A7 s'.most c7, .slice A8 s'.B.length c8, .int .i64 (s'.T.length : Nat)] 60)
          have TN := Lib.hid (heap_alloc_new w6 (.cells #[.slice A6 s'.most c6, .slice A7 s'.most c7, .slice A8 s'.B.length c8, .int .i64 (s'.T.length : Nat)] 60))
          have S7 := Lib.hid (S6.out.below hA)
          have R7 := Lib.hid (R6.out.below hA)
          have T7 := Lib.hid ((hA.block _ (lt_of_block T6.out)).trans T6.out)
          have TO7 := Lib.hid ((hA.block _ (lt_of_block TO6.out)).trans TO6.out)
          have B7 := Lib.hid (B6.out.trans (hA.mono B6.out.size))
          clear hA S6 R6 T6 TO6 B6 S5 X5 B5 TO5 R5 T5 feq feq2
          generalize (w6.alloc (.cells #[.slice A6 s'.most c6, .slice A7 s'.most c7, .slice A8 s'.B.length c8, .int .i64 (s'.T.length : Nat)] 60)) = w7 at *
          obtain ⟨gn, hgn⟩ : ∃ g, g = w6.heap.size := ⟨_, rfl⟩
          rw [← hgn] at TN ⊢
          clear hgn
          obtain ⟨k0, k1, k2, k3⟩ := four_of T7.out
          obtain ⟨j0, j1, j2, j3⟩ := four_of TN.out
          have z0 := four_fz T7.out 0
          have z1 := four_fz T7.out 1
          have z2 := four_fz T7.out 2
          have z3 := four_fz T7.out 3
          have BX := Lib.hid (box9_set T7.out S7.out R7.out)
          have TO8 := Lib.hid (act_four (.slice A6 s'.most c6) (.slice A7 s'.most c7) (.slice A8 s'.B.length c8) (.int .i64 (s'.T.length : Nat)) T7.out TO7.out)
          have B8 := Lib.hid (below_four B7.out hgw (.slice A6 s'.most c6) (.slice A7 s'.most c7) (.slice A8 s'.B.length c8) (.int .i64 (s'.T.length : Nat)))
          go_upto_region 28 with fail
          clear k0 k1 k2 k3 j0 j1 j2 j3 z0 z1 z2 z3 T7 TO7 S7 R7 B7 TN
          generalize ((((w7.setCell ⟨gb, 0, none⟩ (.slice A6 s'.most c6)).setCell ⟨gb, 1, none⟩ (.slice A7 s'.most c7)).setCell ⟨gb, 2, none⟩ (.slice A8 s'.B.length c8)).setCell ⟨gb, 3, none⟩ (.int .i64 (s'.T.length : Nat))) = w8 at *
          obtain ⟨s8, x8⟩ := BX.out
          clear BX
          have S8 := Lib.hid s8
          have X8 := Lib.hid x8
          clear s8
          obtain ⟨uV, uI, uK, t8, hV, hI, hK⟩ := x8
          obtain ⟨AX, dX, rfl⟩ := hV.shape' (rV_len s')
          obtain ⟨AY, dY, rfl⟩ := hI.shape' (rI_len s')
          obtain ⟨AZ, dZ, rfl⟩ := hK.shape' (rK_len s')
          have R8 := Lib.hid (show Ref9 w8 w.heap.size s' (.agg #[.slice AX s'.most dX, .slice AY s'.most dY, .slice AZ s'.B.length dZ, .int .i64 (s'.T.length : Nat)]) from ⟨_, _, _, rfl, hV, hI, hK⟩)
          obtain ⟨k0, k1, k2, k3⟩ := four_of t8
          have T8 := Lib.hid t8
          clear t8 hV hI hK
          have t1 : w8.cell? ⟨go, 0, none⟩ = some (.int .i64 kd) ∧ w8.cell? ⟨go, 1, none⟩ = some (.int .i64 ix) ∧ w8.cell? ⟨go, 2, none⟩ = some (.int .i64 xv) := by simp [World.cell?, TO8.out]
          obtain ⟨a0, a1, a2⟩ := t1
          go_wp2_with fail
          with_reducible refine (same9 S8.out R8.out ix).mono ?_
          rintro e w9 ⟨rfl, b9⟩
          have S9 := Lib.hid (S8.out.below b9)
          have X9 := Lib.hid (X8.out.below b9)
          have R9 := Lib.hid (R8.out.below b9)
          have B9 := Lib.hid (B8.out.trans (b9.mono B8.out.size))
          have T9 := Lib.hid ((b9.block _ (lt_of_block T8.out)).trans T8.out)
          clear k0 k1 k2 k3 a0 a1 a2 b9
          obtain ⟨k0, k1, k2, k3⟩ := four_of T9.out
          go_wp2_with fail
          with_reducible refine (same9 S9.out R9.out i0).mono ?_
          rintro e w10 ⟨rfl, b10⟩
          have S10 := Lib.hid (S9.out.below b10)
          have X10 := Lib.hid (X9.out.below b10)
          have B10 := Lib.hid (B9.out.trans (b10.mono B9.out.size))
          clear k0 k1 k2 k3 b10
          go_wp2_with fail
          go_roundw
          case rel => exact ⟨k + 1, s', hlt, by go_num, S10.out, X10.out, B10.out⟩
          case measure => (simp [intOf]; omega)
        · have f0 : (kd == 0) = false := by simp [h0]
          by_cases h1 : kd = 1
          · have f1 : (kd == 1) = true := by simp [h1]
            have t0 : W4.cell? ⟨go, 0, none⟩ = some (.int .i64 kd) ∧ W4.cell? ⟨go, 1, none⟩ = some (.int .i64 ix) ∧ W4.cell? ⟨go, 2, none⟩ = some (.int .i64 xv) := by simp [World.cell?, TO.out]
            obtain ⟨a0, a1, a2⟩ := t0
            go_wp2_with fail
            with_reducible refine (give_slo S4.out ix).mono ?_
            rintro e w5 ⟨rfl, s5, k5⟩
            have S5 := Lib.hid s5
            have X5 := Lib.hid (X4.out.skept k5)
            have B5 := Lib.hid (sk_below k5 B4.out hwp)
            have TO5 := Lib.hid ((k5.rows _ _ _ TO.out (by decide) (by decide)).trans TO.out)
            clear s5 k5 a0 a1 a2
            obtain ⟨uV, uI, uK, t5, hV, hI, hK⟩ := X5.out
            obtain ⟨AX, dX, rfl⟩ := hV.shape' (rV_len s)
            obtain ⟨AY, dY, rfl⟩ := hI.shape' (rI_len s)
            obtain ⟨AZ, dZ, rfl⟩ := hK.shape' (rK_len s)
            obtain ⟨k0, k1, k2, k3⟩ := four_of t5
            have R5 := Lib.hid (show Ref9 w5 w.heap.size s (.agg #[.slice AX s.most dX, .slice AY s.most dY, .slice AZ s.B.length dZ, .int .i64 (s.T.length : Nat)]) from ⟨_, _, _, rfl, hV, hI, hK⟩)
            have T5 := Lib.hid t5
            have t1 : w5.cell? ⟨go, 0, none⟩ = some (.int .i64 kd) ∧ w5.cell? ⟨go, 1, none⟩ = some (.int .i64 ix) ∧ w5.cell? ⟨go, 2, none⟩ = some (.int .i64 xv) := by simp [World.cell?, TO5.out]
            obtain ⟨a0, a1, a2⟩ := t1
            clear t5 hV hI hK
            go_wp2_with fail
            with_reducible refine (refgive9 R5.out OKs.out B5.out.size ix).mono ?_
            rintro e w6 ⟨v6, rfl, r6, b6⟩
            obtain ⟨s', hs'⟩ : ∃ s', s' = s.give ix := ⟨_, rfl⟩
            rw [← hs'] at r6 S5
            clear hs' k0 k1 k2 k3 a0 a1 a2
            have S6 := Lib.hid (S5.out.below b6)
            have T6 := Lib.hid ((b6.block _ (lt_of_block T5.out)).trans T5.out)
            have TO6 := Lib.hid ((b6.block _ (lt_of_block TO5.out)).trans TO5.out)
            have B6 := Lib.hid (B5.out.trans (b6.mono B5.out.size))
            obtain ⟨vV6, vI6, vK6, rfl, hV, hI, hK⟩ := r6
            obtain ⟨A6, c6, rfl⟩ := hV.shape' (rV_len s')
            obtain ⟨A7, c7, rfl⟩ := hI.shape' (rI_len s')
            obtain ⟨A8, c8, rfl⟩ := hK.shape' (rK_len s')
            have R6 := Lib.hid (show Ref9 w6 w.heap.size s' (.agg #[.slice A6 s'.most c6, .slice A7 s'.most c7, .slice A8 s'.B.length c8, .int .i64 (s'.T.length : Nat)]) from ⟨_, _, _, rfl, hV, hI, hK⟩)
            clear hV hI hK b6 B4 TO S4 X4
            have feq : (s.has ix != s.has ix) = false := by simp
            go_upto_region 27 with fail
            have hA := (Below.refl w6.heap.size w6).alloc (Nat.le_refl _) (.cells #[.slice A6 s'.most c6, .slice A7 s'.most c7, .slice A8 s'.B.length c8, .int .i64 (s'.T.length : Nat)] 60)
            have TN := Lib.hid (heap_alloc_new w6 (.cells #[.slice A6 s'.most c6, .slice A7 s'.most c7, .slice A8 s'.B.length c8, .int .i64 (s'.T.length : Nat)] 60))
            have S7 := Lib.hid (S6.out.below hA)
            have R7 := Lib.hid (R6.out.below hA)
            have T7 := Lib.hid ((hA.block _ (lt_of_block T6.out)).trans T6.out)
            have TO7 := Lib.hid ((hA.block _ (lt_of_block TO6.out)).trans TO6.out)
            have B7 := Lib.hid (B6.out.trans (hA.mono B6.out.size))
            clear hA S6 R6 T6 TO6 B6 S5 X5 B5 TO5 R5 T5 feq
            generalize (w6.alloc (.cells #[.slice A6 s'.most c6, .slice A7 s'.most c7, .slice A8 s'.B.length c8, .int .i64 (s'.T.length : Nat)] 60)) = w7 at *
            obtain ⟨gn, hgn⟩ : ∃ g, g = w6.heap.size := ⟨_, rfl⟩
            rw [← hgn] at TN ⊢
            clear hgn
            obtain ⟨k0, k1, k2, k3⟩ := four_of T7.out
            obtain ⟨j0, j1, j2, j3⟩ := four_of TN.out
            have z0 := four_fz T7.out 0
            have z1 := four_fz T7.out 1
            have z2 := four_fz T7.out 2
            have z3 := four_fz T7.out 3
            have BX := Lib.hid (box9_set T7.out S7.out R7.out)
            have TO8 := Lib.hid (act_four (.slice A6 s'.most c6) (.slice A7 s'.most c7) (.slice A8 s'.B.length c8) (.int .i64 (s'.T.length : Nat)) T7.out TO7.out)
            have B8 := Lib.hid (below_four B7.out hgw (.slice A6 s'.most c6) (.slice A7 s'.most c7) (.slice A8 s'.B.length c8) (.int .i64 (s'.T.length : Nat)))
            go_upto_region 28 with fail
            clear k0 k1 k2 k3 j0 j1 j2 j3 z0 z1 z2 z3 T7 TO7 S7 R7 B7 TN
            generalize ((((w7.setCell ⟨gb, 0, none⟩ (.slice A6 s'.most c6)).setCell ⟨gb, 1, none⟩ (.slice A7 s'.most c7)).setCell ⟨gb, 2, none⟩ (.slice A8 s'.B.length c8)).setCell ⟨gb, 3, none⟩ (.int .i64 (s'.T.length : Nat))) = w8 at *
            obtain ⟨s8, x8⟩ := BX.out
            clear BX
            have S8 := Lib.hid s8
            have X8 := Lib.hid x8
            clear s8
            obtain ⟨uV, uI, uK, t8, hV, hI, hK⟩ := x8
            obtain ⟨AX, dX, rfl⟩ := hV.shape' (rV_len s')
            obtain ⟨AY, dY, rfl⟩ := hI.shape' (rI_len s')
            obtain ⟨AZ, dZ, rfl⟩ := hK.shape' (rK_len s')
            have R8 := Lib.hid (show Ref9 w8 w.heap.size s' (.agg #[.slice AX s'.most dX, .slice AY s'.most dY, .slice AZ s'.B.length dZ, .int .i64 (s'.T.length : Nat)]) from ⟨_, _, _, rfl, hV, hI, hK⟩)
            obtain ⟨k0, k1, k2, k3⟩ := four_of t8
            have T8 := Lib.hid t8
            clear t8 hV hI hK
            have t1 : w8.cell? ⟨go, 0, none⟩ = some (.int .i64 kd) ∧ w8.cell? ⟨go, 1, none⟩ = some (.int .i64 ix) ∧ w8.cell? ⟨go, 2, none⟩ = some (.int .i64 xv) := by simp [World.cell?, TO8.out]
            obtain ⟨a0, a1, a2⟩ := t1
            go_wp2_with fail
            with_reducible refine (same9 S8.out R8.out ix).mono ?_
            rintro e w9 ⟨rfl, b9⟩
            have S9 := Lib.hid (S8.out.below b9)
            have X9 := Lib.hid (X8.out.below b9)
            have R9 := Lib.hid (R8.out.below b9)
            have B9 := Lib.hid (B8.out.trans (b9.mono B8.out.size))
            have T9 := Lib.hid ((b9.block _ (lt_of_block T8.out)).trans T8.out)
            clear k0 k1 k2 k3 a0 a1 a2 b9
            obtain ⟨k0, k1, k2, k3⟩ := four_of T9.out
            go_wp2_with fail
            with_reducible refine (same9 S9.out R9.out i0).mono ?_
            rintro e w10 ⟨rfl, b10⟩
            have S10 := Lib.hid (S9.out.below b10)
            have X10 := Lib.hid (X9.out.below b10)
            have B10 := Lib.hid (B9.out.trans (b10.mono B9.out.size))
            clear k0 k1 k2 k3 b10
            go_wp2_with fail
            go_roundw
            case rel => exact ⟨k + 1, s', hlt, by go_num, S10.out, X10.out, B10.out⟩
            case measure => (simp [intOf]; omega)
          · have f1 : (kd == 1) = false := by simp [h1]
            have t0 : W4.cell? ⟨go, 0, none⟩ = some (.int .i64 kd) ∧ W4.cell? ⟨go, 1, none⟩ = some (.int .i64 ix) ∧ W4.cell? ⟨go, 2, none⟩ = some (.int .i64 xv) := by simp [World.cell?, TO.out]
            obtain ⟨a0, a1, a2⟩ := t0
            go_wp2_with fail
            with_reducible refine (swap_slo S4.out ix xv).mono ?_
            rintro e w5 ⟨rfl, s5, k5⟩
            have S5 := Lib.hid s5
            have X5 := Lib.hid (X4.out.skept k5)
            have B5 := Lib.hid (sk_below k5 B4.out hwp)
            have TO5 := Lib.hid ((k5.rows _ _ _ TO.out (by decide) (by decide)).trans TO.out)
            clear s5 k5 a0 a1 a2
            obtain ⟨uV, uI, uK, t5, hV, hI, hK⟩ := X5.out
            obtain ⟨AX, dX, rfl⟩ := hV.shape' (rV_len s)
            obtain ⟨AY, dY, rfl⟩ := hI.shape' (rI_len s)
            obtain ⟨AZ, dZ, rfl⟩ := hK.shape' (rK_len s)
            obtain ⟨k0, k1, k2, k3⟩ := four_of t5
            have R5 := Lib.hid (show Ref9 w5 w.heap.size s (.agg #[.slice AX s.most dX, .slice AY s.most dY, .slice AZ s.B.length dZ, .int .i64 (s.T.length : Nat)]) from ⟨_, _, _, rfl, hV, hI, hK⟩)
            have T5 := Lib.hid t5
            have t1 : w5.cell? ⟨go, 0, none⟩ = some (.int .i64 kd) ∧ w5.cell? ⟨go, 1, none⟩ = some (.int .i64 ix) ∧ w5.cell? ⟨go, 2, none⟩ = some (.int .i64 xv) := by simp [World.cell?, TO5.out]
            obtain ⟨a0, a1, a2⟩ := t1
            clear t5 hV hI hK
            go_wp2_with fail
            with_reducible refine (refswap9 R5.out OKs.out B5.out.size ix xv).mono ?_
            rintro e w6 ⟨v6, rfl, r6, b6⟩
            obtain ⟨s', hs'⟩ : ∃ s', s' = s.swap ix xv := ⟨_, rfl⟩
            rw [← hs'] at r6 S5
            clear hs' k0 k1 k2 k3 a0 a1 a2
            have S6 := Lib.hid (S5.out.below b6)
            have T6 := Lib.hid ((b6.block _ (lt_of_block T5.out)).trans T5.out)
            have TO6 := Lib.hid ((b6.block _ (lt_of_block TO5.out)).trans TO5.out)
            have B6 := Lib.hid (B5.out.trans (b6.mono B5.out.size))
            obtain ⟨vV6, vI6, vK6, rfl, hV, hI, hK⟩ := r6
            obtain ⟨A6, c6, rfl⟩ := hV.shape' (rV_len s')
            obtain ⟨A7, c7, rfl⟩ := hI.shape' (rI_len s')
            obtain ⟨A8, c8, rfl⟩ := hK.shape' (rK_len s')
            have R6 := Lib.hid (show Ref9 w6 w.heap.size s' (.agg #[.slice A6 s'.most c6, .slice A7 s'.most c7, .slice A8 s'.B.length c8, .int .i64 (s'.T.length : Nat)]) from ⟨_, _, _, rfl, hV, hI, hK⟩)
            clear hV hI hK b6 B4 TO S4 X4
            have feq : (s.has ix != s.has ix) = false := by simp
            go_upto_region 15 with fail
            have hA := (Below.refl w6.heap.size w6).alloc (Nat.le_refl _) (.cells #[.slice A6 s'.most c6, .slice A7 s'.most c7, .slice A8 s'.B.length c8, .int .i64 (s'.T.length : Nat)] 60)
            have TN := Lib.hid (heap_alloc_new w6 (.cells #[.slice A6 s'.most c6, .slice A7 s'.most c7, .slice A8 s'.B.length c8, .int .i64 (s'.T.length : Nat)] 60))
            have S7 := Lib.hid (S6.out.below hA)
            have R7 := Lib.hid (R6.out.below hA)
            have T7 := Lib.hid ((hA.block _ (lt_of_block T6.out)).trans T6.out)
            have TO7 := Lib.hid ((hA.block _ (lt_of_block TO6.out)).trans TO6.out)
            have B7 := Lib.hid (B6.out.trans (hA.mono B6.out.size))
            clear hA S6 R6 T6 TO6 B6 S5 X5 B5 TO5 R5 T5 feq
            generalize (w6.alloc (.cells #[.slice A6 s'.most c6, .slice A7 s'.most c7, .slice A8 s'.B.length c8, .int .i64 (s'.T.length : Nat)] 60)) = w7 at *
            obtain ⟨gn, hgn⟩ : ∃ g, g = w6.heap.size := ⟨_, rfl⟩
            rw [← hgn] at TN ⊢
            clear hgn
            obtain ⟨k0, k1, k2, k3⟩ := four_of T7.out
            obtain ⟨j0, j1, j2, j3⟩ := four_of TN.out
            have z0 := four_fz T7.out 0
            have z1 := four_fz T7.out 1
            have z2 := four_fz T7.out 2
            have z3 := four_fz T7.out 3
            have BX := Lib.hid (box9_set T7.out S7.out R7.out)
            have TO8 := Lib.hid (act_four (.slice A6 s'.most c6) (.slice A7 s'.most c7) (.slice A8 s'.B.length c8) (.int .i64 (s'.T.length : Nat)) T7.out TO7.out)
            have B8 := Lib.hid (below_four B7.out hgw (.slice A6 s'.most c6) (.slice A7 s'.most c7) (.slice A8 s'.B.length c8) (.int .i64 (s'.T.length : Nat)))
            go_upto_region 28 with fail
            clear k0 k1 k2 k3 j0 j1 j2 j3 z0 z1 z2 z3 T7 TO7 S7 R7 B7 TN
            generalize ((((w7.setCell ⟨gb, 0, none⟩ (.slice A6 s'.most c6)).setCell ⟨gb, 1, none⟩ (.slice A7 s'.most c7)).setCell ⟨gb, 2, none⟩ (.slice A8 s'.B.length c8)).setCell ⟨gb, 3, none⟩ (.int .i64 (s'.T.length : Nat))) = w8 at *
            obtain ⟨s8, x8⟩ := BX.out
            clear BX
            have S8 := Lib.hid s8
            have X8 := Lib.hid x8
            clear s8
            obtain ⟨uV, uI, uK, t8, hV, hI, hK⟩ := x8
            obtain ⟨AX, dX, rfl⟩ := hV.shape' (rV_len s')
            obtain ⟨AY, dY, rfl⟩ := hI.shape' (rI_len s')
            obtain ⟨AZ, dZ, rfl⟩ := hK.shape' (rK_len s')
            have R8 := Lib.hid (show Ref9 w8 w.heap.size s' (.agg #[.slice AX s'.most dX, .slice AY s'.most dY, .slice AZ s'.B.length dZ, .int .i64 (s'.T.length : Nat)]) from ⟨_, _, _, rfl, hV, hI, hK⟩)
            obtain ⟨k0, k1, k2, k3⟩ := four_of t8
            have T8 := Lib.hid t8
            clear t8 hV hI hK
            have t1 : w8.cell? ⟨go, 0, none⟩ = some (.int .i64 kd) ∧ w8.cell? ⟨go, 1, none⟩ = some (.int .i64 ix) ∧ w8.cell? ⟨go, 2, none⟩ = some (.int .i64 xv) := by simp [World.cell?, TO8.out]
            obtain ⟨a0, a1, a2⟩ := t1
            go_wp2_with fail
            with_reducible refine (same9 S8.out R8.out ix).mono ?_
            rintro e w9 ⟨rfl, b9⟩
            have S9 := Lib.hid (S8.out.below b9)
            have X9 := Lib.hid (X8.out.below b9)
            have R9 := Lib.hid (R8.out.below b9)
            have B9 := Lib.hid (B8.out.trans (b9.mono B8.out.size))
            have T9 := Lib.hid ((b9.block _ (lt_of_block T8.out)).trans T8.out)
            clear k0 k1 k2 k3 a0 a1 a2 b9
            obtain ⟨k0, k1, k2, k3⟩ := four_of T9.out
            go_wp2_with fail
            with_reducible refine (same9 S9.out R9.out i0).mono ?_
            rintro e w10 ⟨rfl, b10⟩
            have S10 := Lib.hid (S9.out.below b10)
            have X10 := Lib.hid (X9.out.below b10)
            have B10 := Lib.hid (B9.out.trans (b10.mono B9.out.size))
            clear k0 k1 k2 k3 b10
            go_wp2_with fail
            go_roundw
            case rel => exact ⟨k + 1, s', hlt, by go_num, S10.out, X10.out, B10.out⟩
            case measure => (simp [intOf]; omega)
      · obtain rfl : k = Z.length := by omega
        obtain ⟨uV, uI, uK, t3, hV, hI, hK⟩ := X3.out
        obtain ⟨AX, dX, rfl⟩ := hV.shape
        obtain ⟨AY, dY, rfl⟩ := hI.shape
        obtain ⟨AZ, dZ, rfl⟩ := hK.shape
        obtain ⟨k0, k1, k2, k3⟩ := four_of t3
        have R3 := Lib.hid (show Ref9 wr w.heap.size s (.agg #[.slice AX (rV s).length dX, .slice AY (rI s).length dY, .slice AZ (rK s).length dZ, .int .i64 (s.T.length : Nat)]) from ⟨_, _, _, rfl, hV, hI, hK⟩)
        simp only [rV_len, rI_len, rK_len] at R3 k0 k1 k2
        clear t3 hV hI hK
        go_wp2_with (go_at_call 40; (with_reducible refine (same9 S3.out R3.out i0).mono ?_); rintro e w5 ⟨rfl, b5⟩; have B5 := Lib.hid (B3.out.trans (b5.mono B3.out.size)); clear b5)
        go_ret
        exact ⟨rfl, B5.out⟩
  · go_wp2_with fail
    go_ret
    exact ⟨rfl, B1.out⟩

end Go.Proofs.Ytjcmbddiffebhaa
