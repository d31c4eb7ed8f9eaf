/-
  Take, Used and New of slots.Slots[int], said of cells.
-/
import Derived.Test.YtjcmbddiffebhaaSloB
namespace Go.Proofs.Ytjcmbddiffebhaa
open Go.RowKit

theorem Try.info78 : (Try.prog.info? 78).map (fun i => (i.zero, i.size, i.bytes)) = some (some (.agg #[.int .i64 0, .bool false, .int .i64 0]), 3, 24) := by kernel_rfl

section
variable {P : Program} {ops : Array Oper} {rest : List Oper} {o : Oper} {a : Act} {Q : Exit → Act → World → Prop}
/-- append(s.l, place{}): the goal's world is W with the new place in a block of its own -/
theorem app_pl {W : World} {H : Nat} (hH : W.heap.size = H) (base : Nat) (hgd : o.guard = none) (s x : Operand)
    (ho : o.op = .call { callee := .builtin .append, args := #[s, x], argTypes := #[70, 70] })
    (ht : P.underlying 70 = some (.slice 78)) (hinfo : (P.info? 78).map (fun i => (i.zero, i.size, i.bytes)) = some (some (.agg #[.int .i64 0, .bool false, .int .i64 0]), 3, 24))
    (v : Value) (L : List Pl) (hs : a.eval s = v) (hx : a.eval x = .slice (some ⟨H, 0, none⟩) 1 1)
    (HO : W.ownsRow base 78 3 v L.length (pc L)) (hbase : base ≤ W.heap.size) (hl : L.length ≤ 1000000)
    (h : ∀ v1 w1, w1.ownsRow base 78 3 v1 (L ++ [z0]).length (pc (L ++ [z0])) → W.grownBy w1 v.ownBlock → (v1.ownBlock = v.ownBlock ∨ ∃ b, v1.ownBlock = some b ∧ W.heap.size ≤ b) → wpList P ops Q rest (a.put o.dst v1) w1) :
    wpList P ops Q (o :: rest) a (W.alloc (.cells #[.int .i64 0, .bool false, .int .i64 0] 78)) := by
  subst hH
  obtain ⟨i0, hi, hz0, hz1, hz2⟩ := info_parts hinfo
  refine wpList_append_own_at (W.alloc (.cells #[.int .i64 0, .bool false, .int .i64 0] 78)) hgd s x 70 ho base 78 i0 _ 3 24 ht hi hz0 hz1 hz2 rfl (by omega) v L.length (pc L) hs (HO.alloc _) ⟨W.heap.size, 0, none⟩ 1 1 [.int .i64 0, .bool false, .int .i64 0] hx rfl
    (World.news_of_block (cs := #[.int .i64 0, .bool false, .int .i64 0]) (t := 78) (fr := (0, 0)) (heap_alloc_new W _)) (by simp [Value.oneCell']) (by simp only [maxLen]; omega) (by omega) (by simp; omega) ?_
  intro v1 w1 hown hg _ hat
  refine h v1 w1 (by rw [pc_snoc, List.length_append]; exact hown) ⟨hg.os, hg.tape, hg.output, by have := hg.size; simp at this; omega, fun k hk hne => (hg.block k (by simp; omega) hne).trans (Below.heap_alloc _ _ _ hk)⟩ ?_
  rcases hat with hat | hat
  · exact .inl hat
  · exact .inr ⟨_, hat, by simp⟩
end

section
variable {w w' : World} {p most : Nat} {v : Value} {P : List Pl} {free n : Int}

set_option maxHeartbeats 400000 in
theorem take_nil (x : Int) : Calls Try.prog 21 #[.pointer none, .int .i64 x] w fun e w' => e = .returned (.tuple #[.int .i64 0, .bool false]) ∧ ∃ q, w' = w.drewN q := by
  go_enter Try.func21, Try.ntmps21
  go_wp2_with fail
  go_quiet (fail)
  go_wp2
  go_ret2
  exact ⟨rfl, nq, rfl⟩

set_option maxHeartbeats 400000 in
theorem take_full (x : Int) (c1 : w.cell? ⟨p, 1, none⟩ = some (.int .i64 most)) (c3 : w.cell? ⟨p, 3, none⟩ = some (.int .i64 n)) (hn : (most : Int) ≤ n) :
    Calls Try.prog 21 #[.pointer (some ⟨p, 0, none⟩), .int .i64 x] w fun e w' => e = .returned (.tuple #[.int .i64 0, .bool false]) ∧ ∃ q, w' = w.drewN q := by
  go_enter Try.func21, Try.ntmps21
  go_wp2_with fail
  go_quiet (fail)
  go_wp2
  go_ret2
  exact ⟨rfl, nq, rfl⟩

set_option maxHeartbeats 1000000 in
theorem take_reuse (h : SLow w p v P most free n) (k : Nat) (x : Int) (hf : free = k) (hk : k < P.length) (hn0 : 0 ≤ n) (hn : n < most) :
    Calls Try.prog 21 #[.pointer (some ⟨p, 0, none⟩), .int .i64 x] w fun e w' => e = .returned (.tuple #[.int .i64 k, .bool true]) ∧
      SLow w' p v (P.set k ⟨x, true, 0⟩) most (P.getD k z0).next (n + 1) ∧ Only (Foot p v) w w' := by
  subst hf
  obtain ⟨A, c, hv⟩ := h.shape
  obtain ⟨g, hA, hpg, hown, hx, hu', hnx, hfz⟩ := h.at_ hv k hk
  subst hA
  subst hv
  obtain ⟨y, hy⟩ : ∃ y, y = (P.getD k z0).x := ⟨_, rfl⟩
  obtain ⟨y2, hy2⟩ : ∃ y, y = (P.getD k z0).next := ⟨_, rfl⟩
  obtain ⟨y3, hy3⟩ : ∃ y, y = (P.getD k z0).used := ⟨_, rfl⟩
  rw [← hy] at hx
  rw [← hy2] at hnx ⊢
  rw [← hy3] at hu'
  have h1 := h.setFree y2
  have h2 := h1.setRow k ⟨x, true, 0⟩
  have H := Lib.hid h
  have hl := h.hl
  have hmm := h.hm
  have c0 := h.c0
  have c1 := h.c1
  have c2 := h.c2
  have c3 := h.c3
  have z2 := h.fz 2
  have z3 := h.fz 3
  have hf0 := hfz (k * 3)
  have hf1 := hfz (k * 3 + 1)
  have hf2 := hfz (k * 3 + 2)
  have n0 := h1.c0
  have n3 := h2.c3
  have b1 : (0 : Int) ≤ (k : Int) := by omega
  have b2 : (k : Int) < (P.length : Int) := by omega
  have b3 : ((k : Int) == -1) = false := by rw [beq_eq_false_iff_ne]; omega
  clear h h1 h2 hy hy2 hy3 hfz hown
  go_enter Try.func21, Try.ntmps21
  go_wp2_with fail
  go_quiet (fail)
  go_wp2
  go_ret2
  exact ⟨rfl, (((H.out.drewN nq).setFree y2).setRow k ⟨x, true, 0⟩).setN (n + 1),
    ((((((Only.refl (Foot p (.slice (some ⟨g, 0, none⟩) P.length c)) w).drewN nq).setCell (p := ⟨p, 2, none⟩) (.inl (.inl rfl)) _).setCell (p := ⟨g, k * 3, none⟩) (.inl (.inr rfl)) _).setCell (p := ⟨g, k * 3 + 1, none⟩) (.inl (.inr rfl)) _).setCell (p := ⟨g, k * 3 + 2, none⟩) (.inl (.inr rfl)) _).setCell (p := ⟨p, 3, none⟩) (.inl (.inl rfl)) _⟩

set_option maxHeartbeats 1000000 in
theorem take_fresh (h : SLow w p v P most free n) (x : Int) (hf : free = -1) (hn0 : 0 ≤ n) (hn : n < most) (hP : P.length < most) :
    Calls Try.prog 21 #[.pointer (some ⟨p, 0, none⟩), .int .i64 x] w fun e w' => e = .returned (.tuple #[.int .i64 P.length, .bool true]) ∧
      ∃ v', SLow w' p v' (P ++ [⟨x, true, 0⟩]) most (-1) (n + 1) ∧ Only (Foot p v) w w' ∧ (v'.ownBlock = v.ownBlock ∨ ∃ b, v'.ownBlock = some b ∧ w.heap.size ≤ b) := by
  subst hf
  obtain ⟨A, c, hv⟩ := h.shape
  subst hv
  have H := Lib.hid h
  have hl := h.hl
  have hmm := h.hm
  have c0 := h.c0
  have c1 := h.c1
  have c2 := h.c2
  have c3 := h.c3
  have hps := Lib.hid (show p + 1 ≤ w.heap.size from lt_of_block h.blk)
  have hown := Lib.hid h.own
  have hP6 := Lib.hid (show P.length ≤ 1000000 by omega)
  clear h
  go_enter Try.func21, Try.ntmps21
  go_wp2_with fail
  go_quiet (fail)
  go_wp2_with (at_builtin; refine app_pl rfl (p + 1) rfl (.tmp 35) (.tmp 37) rfl Try.underlying70 Try.info78 (.slice A P.length c) P rfl rfl hown.out hps.out hP6.out ?_)
  intro v1 w1 hown1 hg1 hat1
  have hpv : some p ≠ (Value.slice A P.length c).ownBlock := fun e => by have := (World.ownsRow.lt hown.out p e.symm).1; omega
  have hblk : w1.heap[p]? = w.heap[p]? := hg1.block p (by have := hps.out; exact this) hpv
  obtain ⟨g, c', rfl⟩ : ∃ g c', v1 = .slice (some ⟨g, 0, none⟩) (P.length + 1) c' := by
    rcases hown1.2 with ⟨_, h0⟩ | ⟨g, cap, cur, e, _⟩
    · simp at h0
    · exact ⟨g, cap, e⟩
  have hr : (P ++ [z0]).length = P.length + 1 := by simp
  have h1 := H.out.setL (v1 := .slice (some ⟨g, 0, none⟩) (P.length + 1) c') (P1 := P ++ [z0]) (by simp; omega) hblk (by rw [hr]; exact hown1)
  have H1 := Lib.hid h1
  have h2 := h1.setRow P.length ⟨x, true, 0⟩
  have h3 := h2.setN (n + 1)
  have hset : (P ++ [z0]).set P.length ⟨x, true, 0⟩ = P ++ [⟨x, true, 0⟩] := by simp
  rw [hset] at h2 h3
  obtain ⟨g', hA, hpg, _, e0, e1, e2, hfz⟩ := h1.at_ rfl P.length (by simp)
  obtain rfl : g' = g := by injection hA with hA; injection hA with hA; exact hA.symm
  obtain ⟨y, hy⟩ : ∃ y, y = ((P ++ [z0]).getD P.length z0).x := ⟨_, rfl⟩
  obtain ⟨y2, hy2⟩ : ∃ y, y = ((P ++ [z0]).getD P.length z0).next := ⟨_, rfl⟩
  obtain ⟨y3, hy3⟩ : ∃ y, y = ((P ++ [z0]).getD P.length z0).used := ⟨_, rfl⟩
  rw [← hy] at e0
  rw [← hy3] at e1
  rw [← hy2] at e2
  have n0 := h1.c0
  have n3 := h2.c3
  have z0' := hfz (P.length * 3)
  have z1' := hfz (P.length * 3 + 1)
  have z2' := hfz (P.length * 3 + 2)
  have zp := h1.fz 3
  have hb1 := World.block_lt_of_cell? _ _ n0
  have k0 : w1.cell? ⟨p, 0, none⟩ = some (.slice A P.length c) := (World.cell?_of_block hblk).trans c0
  have kz : w1.frozen? ⟨p, 0, none⟩ = false := (World.frozen?_of_block hblk).trans (H.out.fz 0)
  have HS := Lib.hid h3
  have HO : Only (Foot p (.slice A P.length c)) w w1 := ((Only.refl (Foot p (.slice A P.length c)) w).drewN nq).grown hg1 (fun j hj => .inl (.inr hj))
  have hgown : Foot p (.slice A P.length c) g' ∨ w.heap.size ≤ g' := by
    rcases hat1 with h | ⟨b, h, hb⟩
    · exact .inl (.inr (by rw [← h]; rfl))
    · have : g' = b := by simpa [Value.ownBlock] using h
      exact .inr (by rw [this]; exact hb)
  have HOO := Lib.hid (((((HO.setCell (p := ⟨p, 0, none⟩) (.inl (.inl rfl)) (.slice (some ⟨g', 0, none⟩) (P.length + 1) c')).setCell (p := ⟨g', P.length * 3, none⟩) hgown (.int .i64 x)).setCell (p := ⟨g', P.length * 3 + 1, none⟩) hgown (.bool true)).setCell (p := ⟨g', P.length * 3 + 2, none⟩) hgown (.int .i64 0)).setCell (p := ⟨p, 3, none⟩) (.inl (.inl rfl)) (.int .i64 (n + 1)))
  have HAT := Lib.hid hat1
  have b1 : (0 : Int) ≤ (P.length : Int) := by omega
  have b2 : (P.length : Int) < (P.length : Int) + 1 := by omega
  clear h1 h2 h3 hy hy2 hy3 hfz hset hA hr hown1 hg1 hat1 hpv hblk HO hgown c0 c1 c2 c3
  go_wp2
  go_ret2
  exact ⟨rfl, _, HS.out, HOO.out, HAT.out⟩

/-- the places below k that have a thing -/
def usedI (P : List Pl) (k : Nat) : List Int := ((List.range k).filter fun i => (P.getD i z0).used).map Int.ofNat
theorem usedI_succ (P : List Pl) (k : Nat) : usedI P (k + 1) = if (P.getD k z0).used then usedI P k ++ [(k : Int)] else usedI P k := by
  unfold usedI
  rw [List.range_succ, List.filter_append]
  cases h : (P.getD k z0).used with
  | true => simp only [List.filter_cons, h, List.filter_nil, if_true, List.map_append]; rfl
  | false => simp only [List.filter_cons, h, List.filter_nil, Bool.false_eq_true, if_false, List.append_nil]
theorem usedI_len (P : List Pl) (k : Nat) : (usedI P k).length ≤ k := by
  have := List.length_filter_le (fun i => (P.getD i z0).used) (List.range k)
  simp only [usedI, List.length_map]
  simpa using this

/-- a fresh list of numbers is handed back, nothing that was there has turned -/
def FreshL (w : World) (L : List Int) (e : Ending) (w' : World) : Prop := ∃ v, e = .returned v ∧ Has w' w.heap.size v L ∧ Below w.heap.size w w'

def UseRel (w : World) (P : List Pl) (out i : Value) (wr : World) : Prop :=
  ∃ k : Nat, k ≤ P.length ∧ i = .int .i64 k ∧ Has wr w.heap.size out (usedI P k) ∧ Below w.heap.size w wr

set_option maxHeartbeats 400000 in
theorem used_nil : Calls Try.prog 34 #[.pointer none] w fun e w' => e = .returned (.slice none 0 0) ∧ w = w' := by
  go_enter Try.func34, Try.ntmps34
  go_wp2
  go_ret
  exact ⟨rfl, rfl⟩

set_option maxHeartbeats 1000000 in
theorem used_any (h : SLow w p v P most free n) : Calls Try.prog 34 #[.pointer (some ⟨p, 0, none⟩)] w (FreshL w (usedI P P.length)) := by
  obtain ⟨A, c, hv⟩ := h.shape
  subst hv
  have H := Lib.hid h
  have hl := h.hl
  have hmm := h.hm
  have c0 := h.c0
  clear h
  go_enter Try.func34, Try.ntmps34
  go_wp2_with fail
  go_loopw [3, 13] (fun out i wr => UseRel w P out i wr) (fun _ i _ => P.length - (intOf i).toNat)
  case atStart => exact ⟨0, Nat.zero_le _, rfl, Has.nil _ _, Below.refl _ _⟩
  case round =>
    obtain ⟨k, hk, rfl, hown, hbel⟩ := hrel
    have HO := Lib.hid hown
    have HB := Lib.hid hbel
    by_cases hlt : k < P.length
    · obtain ⟨g, rfl, _, _, e0, e1, e2, _⟩ := (H.out.below hbel).at_ rfl k hlt
      obtain ⟨y, hy⟩ : ∃ y, y = (P.getD k z0).x := ⟨_, rfl⟩
      obtain ⟨y2, hy2⟩ : ∃ y, y = (P.getD k z0).next := ⟨_, rfl⟩
      rw [← hy] at e0
      rw [← hy2] at e2
      have b1 : (0 : Int) ≤ (k : Int) := by omega
      have b2 : (k : Int) < (P.length : Int) := by omega
      clear hown hbel hy hy2
      cases hu : (P.getD k z0).used with
      | false =>
        have HU := Lib.hid hu
        rw [hu] at e1
        clear hu
        go_wp2
        go_roundw
        case rel => exact ⟨k + 1, hlt, by go_num, by rw [usedI_succ, HU.out]; exact HO.out.alloc _, HB.out.alloc HB.out.size _⟩
        case measure => simp [intOf]; omega
      | true =>
        have HU := Lib.hid hu
        rw [hu] at e1
        obtain ⟨Av, cv, rfl⟩ := HO.out.shape
        have HW := Lib.hid (show (usedI P k).length ≤ 1000000 by have := usedI_len P k; omega)
        clear hu
        have HZ := Lib.hid (show (wr.alloc (.cells #[.int .i64 y, .bool true, .int .i64 y2] 78)).heap.size = wr.heap.size + 1 by simp)
        have HS := Lib.hid (show w.heap.size ≤ (wr.alloc (.cells #[.int .i64 y, .bool true, .int .i64 y2] 78)).heap.size by simp; have := HB.out.size; omega)
        go_wp2_with (at_builtin; refine app_int HZ.out w.heap.size rfl (.tmp 20) (.tmp 22) 22 rfl Try.underlying22 Try.info3 (.slice Av _ cv) (usedI P k) _ rfl rfl (HO.out.alloc _) HS.out HW.out ?_; intro v1 w1 hown hg hat; have HN := Lib.hid hown; have HG := Lib.hid hg; clear hown hg hat)
        go_roundw
        case rel => exact ⟨k + 1, hlt, by go_num, by rw [usedI_succ, HU.out]; exact HN.out, (HB.out.alloc HB.out.size _).grown HG.out HS.out (fun g hg' => (HO.out.ge g hg').1)⟩
        case measure => simp [intOf]; omega
    · obtain rfl : k = P.length := by omega
      clear hown hbel
      go_wp2
      go_ret
      exact ⟨_, rfl, HO.out, HB.out⟩
end
end Go.Proofs.Ytjcmbddiffebhaa
