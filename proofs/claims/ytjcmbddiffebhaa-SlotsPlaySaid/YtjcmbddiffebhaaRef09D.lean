/-
  kedgeref09: Give and New.
-/
import Derived.Test.YtjcmbddiffebhaaRef09C
namespace Go.Proofs.Ytjcmbddiffebhaa
open Go.RowKit

section
variable {P : Program} {ops : Array Oper} {rest : List Oper} {o : Oper} {a : Act} {Q : Exit → Act → World → Prop}
/-- append(v, y) where v is a list of the call's own, or one with nothing in it and no room -/
theorem app_e {W : World} {H : Nat} (hH : W.heap.size = H) (base : Nat) (hgd : o.guard = none) (s x : Operand)
    (ho : o.op = .call { callee := .builtin .append, args := #[s, x], argTypes := #[22, 22] })
    (ht : P.underlying 22 = some (.slice 3)) (hinfo : (P.info? 3).map (fun i => (i.zero, i.size, i.bytes)) = some (some (.int .i64 0), 1, 8))
    (v : Value) (L : List Int) (y : Int) (hs : a.eval s = v) (hx : a.eval x = .slice (some ⟨H, 0, none⟩) 1 1)
    (HO : HasE W base v L) (hbase : base ≤ W.heap.size) (hl : L.length ≤ 1000000)
    (h : ∀ v1 w1 row, HasE w1 base v1 (L ++ [y]) → W.grownBy w1 row → (row = none ∨ (row = v.ownBlock ∧ ¬ Lit0 v)) → wpList P ops Q rest (a.put o.dst v1) w1) :
    wpList P ops Q (o :: rest) a (W.alloc (.cells #[.int .i64 y] 3)) := by
  by_cases hlit : Lit0 v
  · obtain ⟨g, rfl⟩ := hlit
    have hL : L = [] := List.length_eq_zero_iff.1 (HO.len_of rfl)
    subst hL
    subst hH
    obtain ⟨i0, hi, hz0, hz1, hz2⟩ := info_parts hinfo
    refine wpList_plain hgd fun K hK => ?_
    have hst := step_append_grows (P := P) (ops := ops) (o := o) (a := a) (w := W.alloc (.cells #[.int .i64 y] 3)) (K := K) (Q := Q) (E := False) hgd s x 22 ho 3 i0 (.int .i64 0) 1 8 ht hi hz0 hz1 hz2 rfl (by omega)
      (some ⟨g, 0, none⟩) 0 0 [] hs (by simp) (by simp) (by simp) ⟨W.heap.size, 0, none⟩ 1 1 [.int .i64 y] hx (by simp)
      (World.news_of_block (cs := #[.int .i64 y]) (t := 3) (fr := (0, 0)) (heap_alloc_new W _)) (by simp [Value.oneCell']) (by omega) (by simp only [maxLen]; omega) (by omega) (by
        intro v1 w1 hown hg
        refine hK _ _ (h v1 w1 none (.inl ?_) ⟨hg.os, hg.tape, hg.output, by have := hg.size; simp at this; omega, fun k hk hne => (hg.block k (by simp; omega) hne).trans (Below.heap_alloc _ _ _ hk)⟩ (.inl rfl))
        have h2 : w1.ownsRow base 3 1 v1 1 [.int .i64 y] := by
          obtain ⟨h1, h2⟩ := hown
          refine ⟨h1, ?_⟩
          rcases h2 with h2 | ⟨g', cap, cur, hv, hgb, r⟩
          · exact .inl h2
          · exact .inr ⟨g', cap, cur, hv, by simp at hgb; omega, r⟩
        exact h2)
    have hw : Region.wanted o (yielded ops a.tmps) = true := by simp [Region.wanted, hgd]
    rw [if_pos hw] at hst
    exact hst
  · have HO2 : Has W base v L := by
      rcases HO with h | ⟨_, h⟩
      · rw [ints_length] at h; exact h
      · exact absurd h hlit
    exact app_int hH base hgd s x 22 ho ht hinfo v L y hs hx HO2 hbase hl fun v1 w1 h1 h2 _ => h v1 w1 _ (.of h1) h2 (.inr ⟨rfl, hlit⟩)
end


/-- what an append to the last list leaves -/
theorem L3.app {w w1 : World} {b : Nat} {vI vK : Value} {V : List Int} {I : List Bool} {K : List Int} {gV n c : Nat} {row : Option Nat} (h : L3 w b (.slice (some ⟨gV, 0, none⟩) n c) vI vK V I K) (hp : 0 < V.length)
    (hg : w.grownBy w1 row) (hr : row = none ∨ (row = vK.ownBlock ∧ ¬ Lit0 vK)) :
    HasE w1 b (.slice (some ⟨gV, 0, none⟩) n c) V ∧ HasB w1 b vI I ∧ (∀ (g : Nat) (cs : Array Value), w.heap[g]? = some (Obj.cells cs 60 (0, 0)) → w1.heap[g]? = w.heap[g]?) ∧ (∀ k, row = some k → b ≤ k) := by
  obtain ⟨hV, hI, hK, hap⟩ := h
  rcases hr with rfl | ⟨rfl, hl⟩
  · have hb : Below w.heap.size w w1 := ⟨hg.os, hg.tape, hg.output, hg.size, fun k hk => hg.block k hk (by simp)⟩
    exact ⟨hV.below hb, hI.below hb, fun g cs h => hb.block _ (lt_of_block h), fun k hk => by cases hk⟩
  · have ho : Only (fun k => vK.ownBlock = some k) w w1 := ⟨hg.os, hg.tape, hg.output, hg.size, fun k hk hs => hg.block k hk (fun e => hs e.symm)⟩
    have hKr : w.ownsRow b 3 1 vK (ints K).length (ints K) := by
      rcases hK with h | ⟨_, h⟩
      · exact h
      · exact absurd h hl
    have hty : ∀ k, vK.ownBlock = some k → ∃ cs, w.heap[k]? = some (.cells cs 3 (0, 0)) := by
      intro k hk
      rcases hKr.2 with ⟨hv, _⟩ | ⟨g, cap, cur, hv, _, hh, _⟩
      · rw [hv] at hk; simp [Value.ownBlock] at hk
      · rw [hv] at hk
        have : g = k := by simpa [Value.ownBlock] using hk
        subst this
        exact ⟨_, hh⟩
    refine ⟨?_, ?_, ?_, fun k hk => (World.ownsRow.lt hKr k hk).1⟩
    · obtain ⟨g, c', hv, hr, _⟩ := Lst.real hV 0 (by rw [ints_length]; exact hp)
      refine .inl (ho.owns hr fun k hk hs => ?_)
      rcases hap with ⟨g', h⟩ | h | h
      · have := hV.len_of h; omega
      · exact hl h
      · exact h k hk hs
    · rcases hI with h | h
      · refine .inl (ho.owns h fun k hk hs => ?_)
        obtain ⟨cs, hc⟩ := hty k hs
        rcases h.2 with ⟨hv, _⟩ | ⟨g, cap, cur, hv, _, hh, _⟩
        · rw [hv] at hk; simp [Value.ownBlock] at hk
        · rw [hv] at hk
          have : g = k := by simpa [Value.ownBlock] using hk
          subst this
          rw [hc] at hh
          injection hh with hh
          injection hh with _ ht
          exact absurd ht (by decide)
      · exact .inr h
    · intro g cs h
      refine ho.block _ (lt_of_block h) fun hs => ?_
      obtain ⟨cs', hc⟩ := hty g hs
      rw [hc] at h
      injection h with h
      injection h with _ ht
      exact absurd ht (by decide)

set_option maxHeartbeats 4000000 in
theorem refgive9_yes {w : World} {b : Nat} {s : St} {r : Value} (h : Ref9 w b s r) (ok : s.Ok) (hbw : b ≤ w.heap.size) (k : Nat) (hh : s.has k = true) :
    Calls Try.prog 37 #[r, .int .i64 k] w (RefG w b (s.give k) true) := by
  have h' := h
  obtain ⟨vV, vI, vK, rfl, hV, hI, hK⟩ := h
  obtain ⟨AV, cV, rfl⟩ := hV.shape
  obtain ⟨AI, cI, rfl⟩ := hI.shape
  obtain ⟨AK, cK, rfl⟩ := hK.shape
  rw [rV_len, rI_len, rK_len] at *
  have hcap := ok.cap
  obtain ⟨t0, t1, hb, _⟩ := two_blocks9 w (.cells #[.slice AV s.most cV, .slice AI s.most cI, .slice AK s.B.length cK, .int .i64 (s.T.length : Nat)] 60) (.cells #[.slice none 0 0, .slice none 0 0, .slice none 0 0, .int .i64 0] 60)
  have HB := Lib.hid hb
  have R := Lib.hid (h'.below hb)
  have OK := Lib.hid ok
  have T0 := Lib.hid t0
  have T1 := Lib.hid t1
  have HH := Lib.hid hh
  clear hb hV hI hK h' ok t0 t1 hh
  go_enter Try.func37, Try.ntmps37
  go_wp2_with fail
  with_reducible refine (refhas9 R.out OK.out k).mono ?_
  rintro e w2 ⟨rfl, b2⟩
  rw [HH.out]
  have R2 := Lib.hid (R.out.below b2)
  have B2 := Lib.hid (HB.out.trans (b2.mono HB.out.size))
  have T0 := Lib.hid ((b2.block _ (lt_of_block T0.out)).trans T0.out)
  have T1 := Lib.hid ((b2.block _ (lt_of_block T1.out)).trans T1.out)
  obtain ⟨k0, k1, k2, k3⟩ := four_of T0.out
  obtain ⟨j0, j1, j2, j3⟩ := four_of T1.out
  have z0' := four_fz T1.out 0
  have z1' := four_fz T1.out 1
  have z2' := four_fz T1.out 2
  have z3' := four_fz T1.out 3
  obtain ⟨g0, hg0⟩ : ∃ g0, g0 = w.heap.size := ⟨_, rfl⟩
  rw [← hg0] at T0 T1 k0 k1 k2 k3 j0 j1 j2 j3 z0' z1' z2' z3' ⊢
  have hgw : w.heap.size ≤ g0 + 1 := by omega
  have hg0' : w.heap.size ≤ g0 := by omega
  have hl1 : g0 + 1 < w2.heap.size := lt_of_block T1.out
  clear b2 hg0
  go_wp2_with fail
  with_reducible refine (refown9 R2.out OK.out).mono ?_
  rintro e w3 ⟨uV, uI, uK, rfl, hV3, hI3, hK3, ap3, b3⟩
  have hkm : k < s.most := by have := (St.has_lt HH.out).2.1; have := OK.out.le; omega
  obtain ⟨gV, dV, rfl, _, gv1, gv2⟩ := hV3.real k (by rw [ints_length, rV_len]; exact hkm)
  obtain ⟨gI, dI, rfl, _, gi1, gi2⟩ := hI3.real k (by rw [bools_length, rI_len]; exact hkm)
  obtain ⟨AW, dW, rfl⟩ := hK3.shape' (rK_len s)
  rw [ints_length, rV_len] at hV3 ap3
  rw [bools_length, rI_len] at hI3
  rw [ints_length, bools_length, rV_len, rI_len]
  have V3 := Lib.hid hV3
  have I3 := Lib.hid hI3
  have K3 := Lib.hid hK3
  have P3 := Lib.hid ap3
  have B3 := Lib.hid (B2.out.trans (b3.mono B2.out.size))
  have T1 := Lib.hid ((b3.block _ (lt_of_block T1.out)).trans T1.out)
  obtain ⟨j0, j1, j2, j3⟩ := four_of T1.out
  have z0' := four_fz T1.out 0
  have z1' := four_fz T1.out 1
  have z2' := four_fz T1.out 2
  have z3' := four_fz T1.out 3
  have g1 : (0 : Int) ≤ (k : Int) := by omega
  have g2 : (k : Int) < (s.most : Int) := by omega
  have hVI : gI ≠ gV := by
    rcases Lst.ne_type hV3 (by rw [ints_length, rV_len]; omega) hI3 (by decide) with h | h
    · have : (bools (rI s)).length = 0 := by rw [h]; rfl
      rw [bools_length, rI_len] at this; omega
    · intro e; subst e; exact h rfl
  have LL := Lib.hid (show L3 w3 w2.heap.size (.slice (some ⟨gV, 0, none⟩) s.most dV) (.slice (some ⟨gI, 0, none⟩) s.most dI) (.slice AW s.B.length dW) (rV s) (rI s) (rK s) from ⟨hV3, hI3, hK3, ap3⟩)
  have hl3 := b3.size
  have hww := B2.out.size
  clear hV3 hI3 hK3 ap3 b3 j0 j1 j2 j3 z0' z1' z2' z3'
  go_upto_region 4 with fail
  obtain ⟨o, ho⟩ : ∃ o, o = Obj.cells #[.slice (some ⟨gV, 0, none⟩) s.most dV, .slice (some ⟨gI, 0, none⟩) s.most dI, .slice AW s.B.length dW, .int .i64 (s.T.length : Nat)] 60 := ⟨_, rfl⟩
  have hA := (Below.refl _ w3).alloc (Nat.le_refl _) o
  have TG := Lib.hid (heap_alloc_new w3 o)
  have T1 := Lib.hid ((hA.block _ (lt_of_block T1.out)).trans T1.out)
  have L4 := Lib.hid (LL.out.below hA)
  have B4 := Lib.hid (B3.out.trans (hA.mono B3.out.size))
  rw [← ho]
  clear hA
  generalize (w3.alloc o) = W3 at TG T1 L4 B4 ⊢
  rw [ho] at TG
  clear ho
  obtain ⟨g2', hg2⟩ : ∃ g, g = w3.heap.size := ⟨_, rfl⟩
  rw [← hg2] at TG gv2 gi2 hl3 ⊢
  clear hg2
  have n1 : g2' ≠ gV := by omega
  have n2 : g2' ≠ gI := by omega
  have n3 : g0 + 1 ≠ gV := by omega
  have n4 : g0 + 1 ≠ gI := by omega
  have n5 : g0 + 1 ≠ g2' := by omega
  have n1' := n1.symm
  have n2' := n2.symm
  have n3' := n3.symm
  have n4' := n4.symm
  have n5' := n5.symm
  have hVI' := hVI.symm
  have hwV : w.heap.size ≤ gV := by omega
  have hwI : w.heap.size ≤ gI := by omega
  have hw2 : w.heap.size ≤ g2' := by omega
  have hbase : b ≤ w2.heap.size := by omega
  obtain ⟨i0, i1, i2, i3⟩ := four_of TG.out
  obtain ⟨_, hgx, _, hcV⟩ := HasE.cellAt L4.out.1 rfl k (by rw [rV_len]; exact hkm)
  injection hgx with hgx
  injection hgx with hgx
  subst hgx
  obtain ⟨_, hgx, _, hcI⟩ := HasB.cellAt L4.out.2.1 rfl k (by rw [rI_len]; exact hkm)
  injection hgx with hgx
  injection hgx with hgx
  subst hgx
  have hfV := L4.out.frV (by rw [rV_len]; omega) k
  have hfI := L4.out.frI (by rw [rI_len]; omega) k
  go_upto_region 6 with fail
  have O1 := only_one9 W3 gI k (.bool false)
  have TGa := (O1.block _ (lt_of_block TG.out) n2).trans TG.out
  have T1a := (O1.block _ (lt_of_block T1.out) n4).trans T1.out
  have L5 := L4.out.setI k false (by rw [rI_len]; exact hkm)
  have B5 := B4.out.setCell (p := ⟨gI, k, none⟩) hwI (.bool false)
  have O2 := only_one9 (W3.setCell ⟨gI, k, none⟩ (.bool false)) gV k (.int .i64 0)
  have TGb := Lib.hid ((O2.block _ (lt_of_block TGa) n1).trans TGa)
  have T1b := Lib.hid ((O2.block _ (lt_of_block T1a) n3).trans T1a)
  have L6 := Lib.hid (L5.setV k 0 (by rw [rV_len]; exact hkm))
  have B6 := Lib.hid (B5.setCell (p := ⟨gV, k, none⟩) hwV (.int .i64 0))
  clear O1 O2 TGa T1a L5 B5 i0 i1 i2 i3 hcV hcI hfV hfI
  generalize ((W3.setCell ⟨gI, k, none⟩ (.bool false)).setCell ⟨gV, k, none⟩ (.int .i64 0)) = W5 at TGb T1b L6 B6 ⊢
  obtain ⟨i0, i1, i2, i3⟩ := four_of TGb.out
  have HKL := Lib.hid (show (rK s).length ≤ 1000000 by rw [rK_len]; have := St.Ok.blen OK.out; have := OK.out.le; omega)
  have HW5 := Lib.hid (show w2.heap.size ≤ W5.heap.size by have := lt_of_block T1b.out; have := lt_of_block TGb.out; omega)
  go_wp2_with (at_builtin; refine app_e rfl w2.heap.size rfl (.tmp 23) (.tmp 25) rfl Try.underlying22 Try.info3 (.slice AW s.B.length dW) (rK s) _ rfl rfl L6.out.2.2.1 HW5.out HKL.out ?_; intro v1 w1 row h1 hg hr; obtain ⟨a1, a2, a3, a4⟩ := L6.out.app (by rw [List.length_set, rV_len]; omega) hg hr; obtain ⟨AZ, dZ, rfl⟩ := h1.shape' (n := s.B.length + 1) (by simp); have TGc := Lib.hid ((a3 _ _ TGb.out).trans TGb.out); have T1c := Lib.hid ((a3 _ _ T1b.out).trans T1b.out); have B7 := Lib.hid (B6.out.grown hg B6.out.size (fun g hg' => Nat.le_trans hww (a4 g hg'))); have A1 := Lib.hid a1; have A2 := Lib.hid a2; have H7 := Lib.hid h1; clear a1 a2 a3 a4 hg hr h1; obtain ⟨m0, m1, m2, m3⟩ := four_of TGc.out; have z2g := four_fz TGc.out 2; obtain ⟨j0, j1, j2, j3⟩ := four_of T1c.out; have z0' := four_fz T1c.out 0; have z1' := four_fz T1c.out 1; have z2' := four_fz T1c.out 2; have z3' := four_fz T1c.out 3)
  obtain ⟨e1, e2, e3, e4⟩ := give_lists HH.out
  have T1d := ((only_one9 _ g2' 2 (.slice AZ (s.B.length + 1) dZ)).block _ (lt_of_block T1c.out) n5).trans T1c.out
  refine bodyPost_ret (v := .tuple #[.agg #[.slice (some ⟨gV, 0, none⟩) s.most dV, .slice (some ⟨gI, 0, none⟩) s.most dI, .slice AZ (s.B.length + 1) dZ, .int .i64 (s.T.length : Nat)], .bool true]) (by simp [results, Try.results37, go_sem, j0, j1, j2, j3]) rfl ⟨_, rfl, ?_, ?_⟩
  · refine ⟨_, _, _, by rw [e4], ?_, ?_, ?_⟩
    · rw [e1]
      exact Lst.mono (lst_four T1d (Lst.other A1.out (Lst.ne_block A1.out TGc.out (by decide)) 2 _) (by decide)) hbase
    · rw [e2]
      exact Lst.mono (lst_four T1d (Lst.other A2.out (Lst.ne_block A2.out TGc.out (by decide)) 2 _) (by decide)) hbase
    · rw [e3]
      exact Lst.mono (lst_four T1d (Lst.other H7.out (Lst.ne_block H7.out TGc.out (by decide)) 2 _) (by decide)) hbase
  · exact below_four (B7.out.setCell (p := ⟨g2', 2, none⟩) hw2 _) hgw _ _ _ _

theorem refgive9 {w : World} {b : Nat} {s : St} {r : Value} (h : Ref9 w b s r) (ok : s.Ok) (hbw : b ≤ w.heap.size) (i : Int) : Calls Try.prog 37 #[r, .int .i64 i] w (RefG w b (s.give i) (s.has i)) := by
  cases hh : s.has i with
  | false => rw [give_no9 hh]; exact refgive9_no h ok i hh
  | true =>
    obtain ⟨k, rfl, _⟩ := has_yes ok hh
    exact refgive9_yes h ok hbw k hh

end Go.Proofs.Ytjcmbddiffebhaa
