/-
  kedgeref09.own: copies of the three lists, in blocks of their own.
-/
import Derived.Test.YtjcmbddiffebhaaRef09A
import Derived.Deep.RegionHeld3
import Derived.Deep.RegionLawGrows
import Derived.Laws.OwnMore
import Derived.Deep.DeepCutAuto
namespace Go.Proofs.Ytjcmbddiffebhaa
open Go.RowKit

/-- what a copy is: new, or nothing at all -/
def Cpy (w : World) (e : TypeId) (v : Value) (xs : List Value) (w' : World) : Prop :=
  Below w.heap.size w w' ∧ Lst w' w.heap.size e v xs

theorem step_copy {P : Program} {ops : Array Oper} {o : Oper} {a : Act} {w : World} {K : Act → World → Prop} {Q : Exit → Act → World → Prop} {E : Prop}
    (hg : o.guard = none) (s x : Operand) (t e : TypeId) (z : Value) (bytes b2 : Nat) (hop : o.op = Op.call { callee := Callee.builtin Builtin.append, args := #[s, x], argTypes := #[t, t] })
    (ht : P.underlying t = some (.slice e)) (hinfo : (P.info? e).map (fun i => (i.zero, i.size, i.bytes)) = some (some z, 1, bytes)) (hz : z.cells.size = 1) (hby : bytes ≤ 8)
    (g : Nat) (u : Value) (xs : List Value) (hs : a.eval s = .slice (some ⟨g, 0, none⟩) 0 0) (hx : a.eval x = u) (HU : Lst w b2 e u xs) (h1 : ∀ y ∈ xs, y.oneCell' = true) (hl : xs.length ≤ 1000000)
    (hK : ∀ v' w', Cpy w e v' xs w' → K (a.put o.dst v') w') :
    if Region.wanted o (yielded ops a.tmps) = true then Oper.wp P o a w K Q else E := by
  obtain ⟨i0, hi, hz0, hz1, hz2⟩ := info_parts hinfo
  by_cases hn : xs = []
  · subst hn
    have hw : Region.wanted o (yielded ops a.tmps) = true := by simp [Region.wanted, hg]
    obtain ⟨A, c, rfl⟩ := HU.shape
    have hk := hK (.slice (some ⟨g, 0, none⟩) 0 0) w ⟨Below.refl _ _, .inr ⟨rfl, g, rfl⟩⟩
    cases A with
    | some ad =>
      refine step_append_room hg s x t hop e i0 1 ht hi hz1 g 0 0 0 hs ad 0 c [] (by simpa using hx) (by simp) (by simp) (by simp) (by simp) (by simp) ?_
      simpa [World.setCells] using hk
    | none =>
      have hc : c = 0 := by
        rcases HU with h | ⟨_, g', h⟩
        · rcases h.2 with ⟨h, _⟩ | ⟨g', cap, cur, h, _⟩
          · injection h
          · cases h
        · cases h
      subst hc
      rw [if_pos hw]
      have hrun2 : (Builtin.append_ #[t, t] o.type #[.slice (some ⟨g, 0, none⟩) 0 0, .slice none 0 0]).run P w = .ok (.slice (some ⟨g, 0, none⟩) 0 0) w := by
        simp [Builtin.append_, run_underlying ht, sizeOf, typeInfo, hi, Builtin.lenOf, Builtin.firstCells, storeCells]
      unfold Oper.wp execOp
      have hx' : a.eval x = .slice none 0 0 := hx
      simp only [hop, resolve, invoke, builtin, Sem.run_bind, Sem.run_pure, Result.andThen_ok, List.map_toArray, List.map_cons, List.map_nil, hs, hx', hrun2]
      exact hk
  · rcases HU with h | ⟨h, _⟩
    · rcases h.2 with ⟨rfl, h0⟩ | ⟨g', cap, cur, rfl, hb, hh, h2, h3, h4, h5⟩
      · exact absurd (List.length_eq_zero_iff.1 h0) hn
      · refine step_append_grows hg s x t hop e i0 z 1 bytes ht hi hz0 hz1 hz2 hz (by omega) (some ⟨g, 0, none⟩) 0 0 [] hs (by simp) (by simp) (by simp) ⟨g', 0, none⟩ xs.length cap xs hx (by simp)
          (fun j y hj => World.ownsRow.cells h (g := g') rfl j y hj) h1 ?_ (by simp only [maxLen]; omega) ?_ ?_
        · have := List.length_pos_iff.2 hn; omega
        · have : (0 + xs.length) * bytes ≤ (0 + xs.length) * 8 := Nat.mul_le_mul_left _ hby
          omega
        · intro v' w' ho hgr
          refine hK v' w' ⟨⟨hgr.os, hgr.tape, hgr.output, hgr.size, fun k hk => hgr.block k hk (by simp)⟩, .inl ?_⟩
          simpa using ho
    · exact absurd h hn

/-- a list with nothing in it and no room -/
def Lit0 (v : Value) : Prop := ∃ g, v = .slice (some ⟨g, 0, none⟩) 0 0
/-- two copies share nothing -/
def Ap (v u : Value) : Prop := Lit0 v ∨ Lit0 u ∨ ∀ k, v.ownBlock = some k → u.ownBlock ≠ some k
theorem Ap.symm {v u : Value} (h : Ap v u) : Ap u v := by
  rcases h with h | h | h
  · exact .inr (.inl h)
  · exact .inl h
  · exact .inr (.inr fun k hk e => h k e hk)

theorem Cpy.rng {w w' : World} {e : TypeId} {v : Value} {xs : List Value} (h : Cpy w e v xs w') : Lit0 v ∨ ∀ k, v.ownBlock = some k → w.heap.size ≤ k ∧ k < w'.heap.size := by
  rcases h.2 with h | ⟨_, h⟩
  · exact .inr fun k hk => World.ownsRow.lt h k hk
  · exact .inl h
theorem Cpy.ap {w w' w2 w3 : World} {e e2 : TypeId} {v u : Value} {xs ys : List Value} (h : Cpy w e v xs w') (h2 : Cpy w2 e2 u ys w3) (hs : w'.heap.size ≤ w2.heap.size) : Ap v u := by
  rcases h.rng with h | h
  · exact .inl h
  · rcases h2.rng with h2 | h2
    · exact .inr (.inl h2)
    · exact .inr (.inr fun k hk e => by have := h k hk; have := h2 k e; omega)

theorem bw9_step {w1 X W : World} (h : Below w1.heap.size w1 X) (b : Below X.heap.size X W) : Below w1.heap.size w1 W := h.trans (b.mono h.size)
theorem bw9_a {w1 X : World} {o : Obj} (h : Below w1.heap.size w1 X) : Below w1.heap.size w1 (X.alloc o) := h.alloc h.size o

theorem bw9_d {w1 X : World} (h : Below w1.heap.size w1 X) : Below w1.heap.size w1 X.drew := ⟨h.os, h.tape, h.output, h.size, h.block⟩

theorem step_copy9 {P : Program} {ops : Array Oper} {o : Oper} {a : Act} {w1 w : World} {K : Act → World → Prop} {Q : Exit → Act → World → Prop} {E : Prop}
    (hg : o.guard = none) (s x : Operand) (t e : TypeId) (z : Value) (bytes b2 : Nat) (hop : o.op = Op.call { callee := Callee.builtin Builtin.append, args := #[s, x], argTypes := #[t, t] })
    (ht : P.underlying t = some (.slice e)) (hinfo : (P.info? e).map (fun i => (i.zero, i.size, i.bytes)) = some (some z, 1, bytes)) (hz : z.cells.size = 1) (hby : bytes ≤ 8)
    (g : Nat) (u : Value) (xs : List Value) (hs : a.eval s = .slice (some ⟨g, 0, none⟩) 0 0) (hx : a.eval x = u) (HU : ∀ W, Below w1.heap.size w1 W → Lst W b2 e u xs) (h1 : ∀ y ∈ xs, y.oneCell' = true) (hl : xs.length ≤ 1000000)
    (hb : Below w1.heap.size w1 w) (hK : ∀ v' w', Cpy w e v' xs w' → Below w1.heap.size w1 w' → K (a.put o.dst v') w') :
    if Region.wanted o (yielded ops a.tmps) = true then Oper.wp P o a w K Q else E :=
  step_copy hg s x t e z bytes b2 hop ht hinfo hz hby g u xs hs hx (HU w hb) h1 hl fun v' w' h => hK v' w' h (bw9_step hb h.1)

theorem own_seq {w1 X1 W1 X2 W2 X3 W3 wl : World} {e1 e2 e3 : TypeId} {v1 v2 v3 : Value} {x1 x2 x3 : List Value} (C1 : Cpy X1 e1 v1 x1 W1) (C2 : Cpy X2 e2 v2 x2 W2) (C3 : Cpy X3 e3 v3 x3 W3)
    (a1 : Below w1.heap.size w1 X1) (a2 : Below W1.heap.size W1 X2) (a3 : Below W2.heap.size W2 X3) (a4 : Below W3.heap.size W3 wl) :
    Lst wl w1.heap.size e1 v1 x1 ∧ Lst wl w1.heap.size e2 v2 x2 ∧ Lst wl w1.heap.size e3 v3 x3 ∧ Below w1.heap.size w1 wl ∧ Ap v1 v2 ∧ Ap v1 v3 ∧ Ap v2 v3 := by
  have b1 := bw9_step a1 C1.1
  have b2 := bw9_step a2 C2.1
  have b3 := bw9_step a3 C3.1
  have s2 := bw9_step b1 a2
  have s3 := bw9_step (bw9_step b1 b2) a3
  exact ⟨((C1.2.below b2).below b3 |>.below a4).mono a1.size, ((C2.2.below b3).below a4).mono s2.size, (C3.2.below a4).mono s3.size, bw9_step (bw9_step (bw9_step b1 b2) b3) a4,
    C1.ap C2 a2.size, C1.ap C3 (Nat.le_trans b2.size a3.size), C2.ap C3 a3.size⟩

theorem Try.underlying27' : Try.prog.underlying 27 = some (.slice 4) := by kernel_rfl

def OwnPost (w : World) (s : St) (e : Ending) (w' : World) : Prop :=
  ∃ vV vI vK, e = .returned (.agg #[vV, vI, vK, .int .i64 (s.T.length : Nat)]) ∧ HasE w' w.heap.size vV (rV s) ∧ HasB w' w.heap.size vI (rI s) ∧ HasE w' w.heap.size vK (rK s) ∧
    Ap vV vK ∧ Below w.heap.size w w'

theorem four_fz {w : World} {g : Nat} {x y z u : Value} {t : TypeId} (h : w.heap[g]? = some (.cells #[x, y, z, u] t (0, 0))) (o : Nat) : w.frozen? ⟨g, o, none⟩ = false := by
  simp [World.frozen?, h]

/-- the struct that own hands back, just before the return -/
def OwnCut (w : World) (g : Nat) (s : St) (wx : World) : Prop :=
  ∃ vV vI vK, wx.heap[g]? = some (.cells #[vV, vI, vK, .int .i64 (s.T.length : Nat)] 60 (0, 0)) ∧ HasE wx w.heap.size vV (rV s) ∧ HasB wx w.heap.size vI (rI s) ∧ HasE wx w.heap.size vK (rK s) ∧
    Ap vV vK ∧ Below w.heap.size w wx

theorem ints_one (L : List Int) : ∀ y ∈ ints L, y.oneCell' = true := by
  intro y hy
  obtain ⟨_, _, rfl⟩ := List.mem_map.1 hy
  rfl
theorem bools_one (L : List Bool) : ∀ y ∈ bools L, y.oneCell' = true := by
  intro y hy
  obtain ⟨_, _, rfl⟩ := List.mem_map.1 hy
  rfl

theorem set_four {w : World} {g : Nat} {x y z t a b c d : Value} {e : TypeId} (h : w.heap[g]? = some (.cells #[x, y, z, t] e (0, 0))) :
    ((((w.setCell ⟨g, 0, none⟩ a).setCell ⟨g, 1, none⟩ b).setCell ⟨g, 2, none⟩ c).setCell ⟨g, 3, none⟩ d).heap[g]? = some (.cells #[a, b, c, d] e (0, 0)) := by
  have h1 : (w.setCell ⟨g, 0, none⟩ a).heap[g]? = some (.cells #[a, y, z, t] e (0, 0)) := by simp [World.setCell, Array.getElem?_modify, h]
  generalize (w.setCell ⟨g, 0, none⟩ a) = w1 at h1
  have h2 : (w1.setCell ⟨g, 1, none⟩ b).heap[g]? = some (.cells #[a, b, z, t] e (0, 0)) := by simp [World.setCell, Array.getElem?_modify, h1]
  generalize (w1.setCell ⟨g, 1, none⟩ b) = w2 at h2
  have h3 : (w2.setCell ⟨g, 2, none⟩ c).heap[g]? = some (.cells #[a, b, c, t] e (0, 0)) := by simp [World.setCell, Array.getElem?_modify, h2]
  generalize (w2.setCell ⟨g, 2, none⟩ c) = w3 at h3
  simp [World.setCell, Array.getElem?_modify, h3]

theorem only_four (w : World) (g : Nat) (a b c d : Value) : Only (fun k => k = g) w ((((w.setCell ⟨g, 0, none⟩ a).setCell ⟨g, 1, none⟩ b).setCell ⟨g, 2, none⟩ c).setCell ⟨g, 3, none⟩ d) :=
  ((((Only.refl (fun k => k = g) w).setCell (p := ⟨g, 0, none⟩) (.inl rfl) a).setCell (p := ⟨g, 1, none⟩) (.inl rfl) b).setCell (p := ⟨g, 2, none⟩) (.inl rfl) c).setCell (p := ⟨g, 3, none⟩) (.inl rfl) d

theorem below_four {w0 w : World} {g : Nat} (h : Below w0.heap.size w0 w) (hg : w0.heap.size ≤ g) (a b c d : Value) :
    Below w0.heap.size w0 ((((w.setCell ⟨g, 0, none⟩ a).setCell ⟨g, 1, none⟩ b).setCell ⟨g, 2, none⟩ c).setCell ⟨g, 3, none⟩ d) :=
  (((h.setCell (p := ⟨g, 0, none⟩) hg a).setCell (p := ⟨g, 1, none⟩) hg b).setCell (p := ⟨g, 2, none⟩) hg c).setCell (p := ⟨g, 3, none⟩) hg d

theorem lst_four {w : World} {g b0 : Nat} {x y z t a b c d v : Value} {e : TypeId} {xs : List Value} (hg : w.heap[g]? = some (.cells #[x, y, z, t] 60 (0, 0))) (h : Lst w b0 e v xs) (he : e ≠ 60) :
    Lst ((((w.setCell ⟨g, 0, none⟩ a).setCell ⟨g, 1, none⟩ b).setCell ⟨g, 2, none⟩ c).setCell ⟨g, 3, none⟩ d) b0 e v xs := by
  have hn := h.ne_block hg he
  exact (((h.other hn 0 a).other hn 1 b).other hn 2 c).other hn 3 d

theorem own_leaf {w w1 wl : World} {g : Nat} {s : St} {x y z t vP vQ vR : Value} (T1 : w1.heap[g]? = some (.cells #[x, y, z, t] 60 (0, 0))) (B1 : Below w.heap.size w w1) (hg : w.heap.size ≤ g)
    (h : Lst wl w1.heap.size 3 vP (ints (rV s)) ∧ Lst wl w1.heap.size 4 vQ (bools (rI s)) ∧ Lst wl w1.heap.size 3 vR (ints (rK s)) ∧ Below w1.heap.size w1 wl ∧ Ap vP vR) :
    OwnCut w g s ((((wl.setCell ⟨g, 0, none⟩ vP).setCell ⟨g, 1, none⟩ vQ).setCell ⟨g, 2, none⟩ vR).setCell ⟨g, 3, none⟩ (.int .i64 (s.T.length : Nat))) := by
  obtain ⟨h1, h2, h3, b, ap⟩ := h
  have T2 := (b.block _ (lt_of_block T1)).trans T1
  exact ⟨vP, vQ, vR, set_four T2, (lst_four T2 h1 (by decide)).mono B1.size, (lst_four T2 h2 (by decide)).mono B1.size, (lst_four T2 h3 (by decide)).mono B1.size, ap,
    below_four (B1.trans (b.mono B1.size)) hg _ _ _ _⟩

section
variable {w1 XP WP XQ WQ XR WR wl : World} {vP vQ vR : Value} {xP xQ xR : List Value}
theorem own_PQR (CP : Cpy XP 3 vP xP WP) (CQ : Cpy XQ 4 vQ xQ WQ) (CR : Cpy XR 3 vR xR WR) (a1 : Below w1.heap.size w1 XP) (a2 : Below WP.heap.size WP XQ) (a3 : Below WQ.heap.size WQ XR) (a4 : Below WR.heap.size WR wl) :
    Lst wl w1.heap.size 3 vP xP ∧ Lst wl w1.heap.size 4 vQ xQ ∧ Lst wl w1.heap.size 3 vR xR ∧ Below w1.heap.size w1 wl ∧ Ap vP vR := by
  have h := own_seq CP CQ CR a1 a2 a3 a4
  exact ⟨h.1, h.2.1, h.2.2.1, h.2.2.2.1, h.2.2.2.2.2.1⟩
theorem own_PRQ (CP : Cpy XP 3 vP xP WP) (CQ : Cpy XQ 4 vQ xQ WQ) (CR : Cpy XR 3 vR xR WR) (a1 : Below w1.heap.size w1 XP) (a2 : Below WP.heap.size WP XR) (a3 : Below WR.heap.size WR XQ) (a4 : Below WQ.heap.size WQ wl) :
    Lst wl w1.heap.size 3 vP xP ∧ Lst wl w1.heap.size 4 vQ xQ ∧ Lst wl w1.heap.size 3 vR xR ∧ Below w1.heap.size w1 wl ∧ Ap vP vR := by
  have h := own_seq CP CR CQ a1 a2 a3 a4
  exact ⟨h.1, h.2.2.1, h.2.1, h.2.2.2.1, h.2.2.2.2.1⟩
theorem own_QPR (CP : Cpy XP 3 vP xP WP) (CQ : Cpy XQ 4 vQ xQ WQ) (CR : Cpy XR 3 vR xR WR) (a1 : Below w1.heap.size w1 XQ) (a2 : Below WQ.heap.size WQ XP) (a3 : Below WP.heap.size WP XR) (a4 : Below WR.heap.size WR wl) :
    Lst wl w1.heap.size 3 vP xP ∧ Lst wl w1.heap.size 4 vQ xQ ∧ Lst wl w1.heap.size 3 vR xR ∧ Below w1.heap.size w1 wl ∧ Ap vP vR := by
  have h := own_seq CQ CP CR a1 a2 a3 a4
  exact ⟨h.2.1, h.1, h.2.2.1, h.2.2.2.1, h.2.2.2.2.2.2⟩
theorem own_QRP (CP : Cpy XP 3 vP xP WP) (CQ : Cpy XQ 4 vQ xQ WQ) (CR : Cpy XR 3 vR xR WR) (a1 : Below w1.heap.size w1 XQ) (a2 : Below WQ.heap.size WQ XR) (a3 : Below WR.heap.size WR XP) (a4 : Below WP.heap.size WP wl) :
    Lst wl w1.heap.size 3 vP xP ∧ Lst wl w1.heap.size 4 vQ xQ ∧ Lst wl w1.heap.size 3 vR xR ∧ Below w1.heap.size w1 wl ∧ Ap vP vR := by
  have h := own_seq CQ CR CP a1 a2 a3 a4
  exact ⟨h.2.2.1, h.1, h.2.1, h.2.2.2.1, h.2.2.2.2.2.2.symm⟩
theorem own_RPQ (CP : Cpy XP 3 vP xP WP) (CQ : Cpy XQ 4 vQ xQ WQ) (CR : Cpy XR 3 vR xR WR) (a1 : Below w1.heap.size w1 XR) (a2 : Below WR.heap.size WR XP) (a3 : Below WP.heap.size WP XQ) (a4 : Below WQ.heap.size WQ wl) :
    Lst wl w1.heap.size 3 vP xP ∧ Lst wl w1.heap.size 4 vQ xQ ∧ Lst wl w1.heap.size 3 vR xR ∧ Below w1.heap.size w1 wl ∧ Ap vP vR := by
  have h := own_seq CR CP CQ a1 a2 a3 a4
  exact ⟨h.2.1, h.2.2.1, h.1, h.2.2.2.1, h.2.2.2.2.1.symm⟩
theorem own_RQP (CP : Cpy XP 3 vP xP WP) (CQ : Cpy XQ 4 vQ xQ WQ) (CR : Cpy XR 3 vR xR WR) (a1 : Below w1.heap.size w1 XR) (a2 : Below WR.heap.size WR XQ) (a3 : Below WQ.heap.size WQ XP) (a4 : Below WP.heap.size WP wl) :
    Lst wl w1.heap.size 3 vP xP ∧ Lst wl w1.heap.size 4 vQ xQ ∧ Lst wl w1.heap.size 3 vR xR ∧ Below w1.heap.size w1 wl ∧ Ap vP vR := by
  have h := own_seq CR CQ CP a1 a2 a3 a4
  exact ⟨h.2.2.1, h.2.1, h.1, h.2.2.2.1, h.2.2.2.2.2.1.symm⟩
end

set_option maxHeartbeats 8000000 in
set_option maxRecDepth 100000 in
theorem refown9 {w : World} {b : Nat} {s : St} {r : Value} (h : Ref9 w b s r) (ok : s.Ok) : Calls Try.prog 48 #[r] w (OwnPost w s) := by
  obtain ⟨vV, vI, vK, rfl, hV, hI, hK⟩ := h
  obtain ⟨AV, cV, rfl⟩ := hV.shape
  obtain ⟨AI, cI, rfl⟩ := hI.shape
  obtain ⟨AK, cK, rfl⟩ := hK.shape
  have hcap := ok.cap
  have hblen := St.Ok.blen ok
  have hle := ok.le
  have LV := Lib.hid (show (ints (rV s)).length ≤ 1000000 by rw [ints_length, rV_len]; omega)
  have LI := Lib.hid (show (bools (rI s)).length ≤ 1000000 by rw [bools_length, rI_len]; omega)
  have LK := Lib.hid (show (ints (rK s)).length ≤ 1000000 by rw [ints_length, rK_len]; omega)
  rw [rV_len, rI_len, rK_len] at *
  obtain ⟨o1, ho1⟩ : ∃ o, o = Obj.cells #[.slice AV s.most cV, .slice AI s.most cI, .slice AK s.B.length cK, .int .i64 (s.T.length : Nat)] 60 := ⟨_, rfl⟩
  obtain ⟨o2, ho2⟩ : ∃ o, o = Obj.cells #[.slice none 0 0, .slice none 0 0, .slice none 0 0, .int .i64 0] 60 := ⟨_, rfl⟩
  have s1 : (w.alloc o1).heap.size = w.heap.size + 1 := by simp
  have hb : Below w.heap.size w ((w.alloc o1).alloc o2) := ((Below.refl _ _).alloc (Nat.le_refl _) _).alloc (by simp) _
  have T0 := Lib.hid (show ((w.alloc o1).alloc o2).heap[w.heap.size]? = some o1 by rw [Below.heap_alloc _ _ _ (by omega)]; exact heap_alloc_new w o1)
  have T1 := Lib.hid (show ((w.alloc o1).alloc o2).heap[w.heap.size + 1]? = some o2 by rw [← s1]; exact heap_alloc_new _ o2)
  have HB := Lib.hid hb
  have HV := Lib.hid (hV.below hb)
  have HI := Lib.hid (hI.below hb)
  have HK := Lib.hid (hK.below hb)
  clear hb hV hI hK ok s1
  subst ho1
  subst ho2
  go_enter Try.func48, Try.ntmps48
  go_wp2_with fail
  obtain ⟨w1, hw1⟩ : ∃ w1, w1 = (w.alloc (.cells #[.slice AV s.most cV, .slice AI s.most cI, .slice AK s.B.length cK, .int .i64 (s.T.length : Nat)] 60)).alloc (.cells #[.slice none 0 0, .slice none 0 0, .slice none 0 0, .int .i64 0] 60) := ⟨_, rfl⟩
  rw [← hw1] at HB HV HI HK T0 T1 ⊢
  obtain ⟨g0, hg0⟩ : ∃ g, g = w.heap.size := ⟨_, rfl⟩
  rw [← hg0] at T0 T1 ⊢
  have hgw : w.heap.size ≤ g0 + 1 := by omega
  clear hw1 hg0
  have FV := Lib.hid (fun W (h : Below w1.heap.size w1 W) => Lst.below HV.out h)
  have FI := Lib.hid (fun W (h : Below w1.heap.size w1 W) => Lst.below HI.out h)
  have FK := Lib.hid (fun W (h : Below w1.heap.size w1 W) => Lst.below HK.out h)
  have FC := Lib.hid (fun W (h : Below w1.heap.size w1 W) => four_of ((h.block _ (lt_of_block T0.out)).trans T0.out))
  have FD := Lib.hid (fun W (h : Below w1.heap.size w1 W) => four_of ((h.block _ (lt_of_block T1.out)).trans T1.out))
  have FZ := Lib.hid (fun W (h : Below w1.heap.size w1 W) => four_fz ((h.block _ (lt_of_block T1.out)).trans T1.out))
  have BW := Lib.hid (Below.refl w1.heap.size w1)
  obtain ⟨q0, q1, q2, q3⟩ := FC.out _ BW.out
  have n0 := Nat.ne_of_lt (lt_of_block T0.out)
  have n1 : g0 ≠ g0 + 1 := by omega
  have n2 : g0 + 1 ≠ g0 := by omega
  go_upto_region 1 with fail
  go_cut [17] (fun _ wx => OwnCut w (g0 + 1) s wx)
  case first =>
    go_region_held3 (fun W => W.cell? ⟨g0, 0, none⟩ = some (.slice AV s.most cV) ∧ W.cell? ⟨g0, 1, none⟩ = some (.slice AI s.most cI) ∧ W.cell? ⟨g0, 2, none⟩ = some (.slice AK s.B.length cK) ∧ W.cell? ⟨g0, 3, none⟩ = some (.int .i64 (s.T.length : Nat))) ((first | (refine FC.out _ ?_; (repeat (first | (with_reducible apply bw9_d) | (with_reducible apply bw9_a))); exact BW.out) | go_keep))
      ((first
        | (refine step_copy9 (w1 := w1) rfl (.tmp 3) (.tmp 5) 22 3 (.int .i64 0) 8 b rfl Try.underlying22 Try.info3 rfl (by decide) _ (.slice AV s.most cV) (ints (rV s)) rfl rfl FV.out (ints_one _) LV.out ?_ ?_; ((repeat (first | (with_reducible apply bw9_d) | (with_reducible apply bw9_a))); exact BW.out); intro vP wP hP bP; obtain ⟨AP, cP, rfl⟩ := (show HasE wP _ vP (rV s) from hP.2).shape' (rV_len s); have CP := Lib.hid hP; have BW := Lib.hid bP; clear bP; obtain ⟨q0, q1, q2, q3⟩ := FC.out _ BW.out; obtain ⟨y0, y1, y2, y3⟩ := FD.out _ BW.out; have z0' := FZ.out _ BW.out 0; have z1' := FZ.out _ BW.out 1; have z2' := FZ.out _ BW.out 2; have z3' := FZ.out _ BW.out 3; clear hP)
        | (refine step_copy9 (w1 := w1) rfl (.tmp 7) (.tmp 9) 27 4 (.bool false) 1 b rfl Try.underlying27' Try.info4 rfl (by decide) _ (.slice AI s.most cI) (bools (rI s)) rfl rfl FI.out (bools_one _) LI.out ?_ ?_; ((repeat (first | (with_reducible apply bw9_d) | (with_reducible apply bw9_a))); exact BW.out); intro vQ wQ hQ bQ; obtain ⟨AQ, cQ, rfl⟩ := (show HasB wQ _ vQ (rI s) from hQ.2).shape' (rI_len s); have CQ := Lib.hid hQ; have BW := Lib.hid bQ; clear bQ; obtain ⟨q0, q1, q2, q3⟩ := FC.out _ BW.out; obtain ⟨y0, y1, y2, y3⟩ := FD.out _ BW.out; have z0' := FZ.out _ BW.out 0; have z1' := FZ.out _ BW.out 1; have z2' := FZ.out _ BW.out 2; have z3' := FZ.out _ BW.out 3; clear hQ)
        | (refine step_copy9 (w1 := w1) rfl (.tmp 11) (.tmp 13) 22 3 (.int .i64 0) 8 b rfl Try.underlying22 Try.info3 rfl (by decide) _ (.slice AK s.B.length cK) (ints (rK s)) rfl rfl FK.out (ints_one _) LK.out ?_ ?_; ((repeat (first | (with_reducible apply bw9_d) | (with_reducible apply bw9_a))); exact BW.out); intro vR wR hR bR; obtain ⟨AR, cR, rfl⟩ := (show HasE wR _ vR (rK s) from hR.2).shape' (rK_len s); have CR := Lib.hid hR; have BW := Lib.hid bR; clear bR; obtain ⟨q0, q1, q2, q3⟩ := FC.out _ BW.out; obtain ⟨y0, y1, y2, y3⟩ := FD.out _ BW.out; have z0' := FZ.out _ BW.out 0; have z1' := FZ.out _ BW.out 1; have z2' := FZ.out _ BW.out 2; have z3' := FZ.out _ BW.out 3; clear hR)
      ))
    all_goals (try go_wp2_with fail)
    all_goals go_meet
    all_goals first
      | (refine own_leaf T1.out HB.out (by omega) (own_PQR CP.out CQ.out CR.out ?_ ?_ ?_ ?_) <;> ((repeat (first | (with_reducible apply bw9_d) | (with_reducible apply bw9_a))); exact Below.refl _ _))
      | (refine own_leaf T1.out HB.out (by omega) (own_PRQ CP.out CQ.out CR.out ?_ ?_ ?_ ?_) <;> ((repeat (first | (with_reducible apply bw9_d) | (with_reducible apply bw9_a))); exact Below.refl _ _))
      | (refine own_leaf T1.out HB.out (by omega) (own_QPR CP.out CQ.out CR.out ?_ ?_ ?_ ?_) <;> ((repeat (first | (with_reducible apply bw9_d) | (with_reducible apply bw9_a))); exact Below.refl _ _))
      | (refine own_leaf T1.out HB.out (by omega) (own_QRP CP.out CQ.out CR.out ?_ ?_ ?_ ?_) <;> ((repeat (first | (with_reducible apply bw9_d) | (with_reducible apply bw9_a))); exact Below.refl _ _))
      | (refine own_leaf T1.out HB.out (by omega) (own_RPQ CP.out CQ.out CR.out ?_ ?_ ?_ ?_) <;> ((repeat (first | (with_reducible apply bw9_d) | (with_reducible apply bw9_a))); exact Below.refl _ _))
      | (refine own_leaf T1.out HB.out (by omega) (own_RQP CP.out CQ.out CR.out ?_ ?_ ?_ ?_) <;> ((repeat (first | (with_reducible apply bw9_d) | (with_reducible apply bw9_a))); exact Below.refl _ _))
  case rest =>
    obtain ⟨vV, vI, vK, hb, hV, hI, hK, hap, hbl⟩ := hcut
    obtain ⟨k0, k1, k2, k3⟩ := four_of hb
    have HC := Lib.hid (show OwnPost w s (.returned (.agg #[vV, vI, vK, .int .i64 (s.T.length : Nat)])) wc from ⟨vV, vI, vK, rfl, hV, hI, hK, hap, hbl⟩)
    clear hb hV hI hK hap hbl
    go_wp2_with fail
    refine bodyPost_ret (v := .agg #[vV, vI, vK, .int .i64 (s.T.length : Nat)]) (by simp [results, Try.results48, go_sem, k0, k1, k2, k3]) rfl HC.out

end Go.Proofs.Ytjcmbddiffebhaa
