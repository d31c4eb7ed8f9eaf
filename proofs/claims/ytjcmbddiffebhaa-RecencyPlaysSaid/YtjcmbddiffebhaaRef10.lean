/-
  The document's answer for layer 10 (kedgeref10), each function said of lists.
-/
import Derived.Test.YtjcmbddiffebhaaRecE
import Derived.Deep.RegionHeld3
import Derived.Laws.AppendOwnNone
namespace Go.Proofs.Ytjcmbddiffebhaa
open Go.RowKit
attribute [local go_sem] max2_i min2_i max_2 min_2

theorem rwo_ne {L : List Int} {x y : Int} (h : y ≠ x) : wo (L ++ [y]) x = wo L x ++ [y] := by simp [wo, h]
theorem rwo_eq {L : List Int} {x : Int} : wo (L ++ [x]) x = wo L x := by simp [wo]
theorem rwo_le (L : List Int) (x : Int) : (wo L x).length ≤ L.length := List.length_filter_le _ _

def WRel (w : World) (L : List Int) (x : Int) (v i : Value) (wr : World) : Prop :=
  ∃ j : Nat, j ≤ L.length ∧ i = .int .i64 j ∧ Has wr w.heap.size v (wo (L.take j) x) ∧ Below w.heap.size w wr

set_option maxHeartbeats 1000000 in
theorem without_any {w : World} {b : Nat} {v : Value} {L : List Int} (h : Has w b v L) (hl : L.length ≤ 1024) (x : Int) : Calls Try.prog 47 #[v, .int .i64 x] w (Fresh w (wo L x)) := by
  obtain ⟨A, c, rfl⟩ := h.shape
  have H := Lib.hid h
  clear h
  go_enter Try.func47, Try.ntmps47
  go_wp2_with fail
  go_loopw [5, 6] (fun v i wr => WRel w L x v i wr) (fun _ i _ => L.length - (intOf i).toNat)
  case atStart => exact ⟨0, Nat.zero_le _, rfl, Has.nil _ _, Below.refl _ _⟩
  case round =>
    obtain ⟨j, hj, rfl, hown, hbel⟩ := hrel
    have HO := Lib.hid hown
    have HB := Lib.hid hbel
    by_cases hlt : j < L.length
    · obtain ⟨g, rfl, _, hc⟩ := (H.out.below hbel).cellAt rfl j hlt
      obtain ⟨y, hy⟩ : ∃ y, y = L.getD j 0 := ⟨_, rfl⟩
      rw [← hy] at hc
      have HY := Lib.hid hy
      have g1 : (0 : Int) ≤ (j : Int) := by omega
      have g2 : (j : Int) < (L.length : Int) := by omega
      clear hown hbel hy
      by_cases hyx : y = x
      · have hb2 : (y != x) = false := by simp [hyx]
        have HYX := Lib.hid hyx
        clear hyx
        go_wp2_with fail
        go_roundw
        case rel => exact ⟨j + 1, hlt, by go_num, by rw [take_one L j hlt, ← HY.out, HYX.out, rwo_eq]; exact HO.out, HB.out⟩
        case measure => simp [intOf]; omega
      · have hb2 : (y != x) = true := by simp [hyx]
        have HYX := Lib.hid hyx
        clear hyx
        obtain ⟨Av, cv, rfl⟩ := HO.out.shape
        have HW := Lib.hid (show (wo (L.take j) x).length ≤ 1000000 by have := rwo_le (L.take j) x; have := List.length_take_le' j L; omega)
        have HS := Lib.hid HB.out.size
        go_wp2_with (at_builtin; refine app_int rfl w.heap.size rfl (.tmp 19) (.tmp 24) 22 rfl Try.underlying22 Try.info3 (.slice Av _ cv) (wo (L.take j) x) _ rfl rfl HO.out HS.out HW.out ?_; intro v1 w1 hown hg hat; have HN := Lib.hid hown; have HG := Lib.hid hg; clear hown hg hat)
        go_roundw
        case rel => exact ⟨j + 1, hlt, by go_num, by rw [take_one L j hlt, ← HY.out, rwo_ne HYX.out]; exact HN.out, HB.out.grown HG.out HS.out (fun g hg' => (HO.out.ge g hg').1)⟩
        case measure => simp [intOf]; omega
    · obtain rfl : j = L.length := by omega
      rw [List.take_length] at hown
      have HO := Lib.hid hown
      clear hown hbel
      go_wp2_with fail
      go_ret
      exact ⟨_, rfl, HO.out, HB.out⟩

def HRel (w1 : World) (L : List Int) (x : Int) (i : Value) (wr : World) : Prop :=
  ∃ j : Nat, j ≤ L.length ∧ i = .int .i64 j ∧ x ∉ L.take j ∧ wr = w1

def RefB (w : World) (b : Bool) (e : Ending) (w' : World) : Prop := e = .returned (.bool b) ∧ Below w.heap.size w w'

set_option maxHeartbeats 1000000 in
theorem refhas {w : World} {b : Nat} {v : Value} {L : List Int} (h : Has w b v L) (m : Int) (x : Int) : Calls Try.prog 32 #[.agg #[v, .int .i64 m], .int .i64 x] w (RefB w (inB L x)) := by
  obtain ⟨A, c, rfl⟩ := h.shape
  have hle := h.le
  have hb : Below w.heap.size w (w.alloc (.cells #[.slice A L.length c, .int .i64 m] 42)) := (Below.refl _ _).alloc (Nat.le_refl _) _
  have H := Lib.hid (h.below hb)
  have HB := Lib.hid hb
  have t0 := heap_alloc_new w (.cells #[.slice A L.length c, .int .i64 m] 42)
  have c0 : (w.alloc (.cells #[.slice A L.length c, .int .i64 m] 42)).cell? ⟨w.heap.size, 0, none⟩ = some (.slice A L.length c) := by simp only [World.cell?, t0]; rfl
  clear h hb t0
  go_enter Try.func32, Try.ntmps32
  go_wp2_with fail
  obtain ⟨w1, hw1⟩ : ∃ w1, w1 = w.alloc (.cells #[.slice A L.length c, .int .i64 m] 42) := ⟨_, rfl⟩
  obtain ⟨g, hg⟩ : ∃ g, g = w.heap.size := ⟨_, rfl⟩
  rw [← hw1] at H HB c0 ⊢
  rw [← hg] at c0 ⊢
  clear hw1 hg
  go_loopw [5] (fun i wr => HRel w1 L x i wr) (fun i _ => L.length - (intOf i).toNat)
  case atStart => exact ⟨0, Nat.zero_le _, rfl, by simp, rfl⟩
  case round =>
    obtain ⟨j, hj, rfl, hn, rfl⟩ := hrel
    have HN := Lib.hid hn
    clear hn
    by_cases hlt : j < L.length
    · obtain ⟨g', rfl, _, hc⟩ := H.out.cellAt rfl j hlt
      obtain ⟨y, hy⟩ : ∃ y, y = L.getD j 0 := ⟨_, rfl⟩
      have hmem : L.getD j 0 ∈ L := by rw [List.getD_eq_getElem?_getD, List.getElem?_eq_getElem hlt]; exact List.getElem_mem hlt
      rw [← hy] at hc hmem
      have HY := Lib.hid hy
      have HM := Lib.hid hmem
      have g1 : (0 : Int) ≤ (j : Int) := by omega
      have g2 : (j : Int) < (L.length : Int) := by omega
      clear hy hmem
      by_cases hyx : y = x
      · have hb2 : (y == x) = true := by simp [hyx]
        have HYX := Lib.hid hyx
        clear hyx
        go_wp2_with fail
        go_ret
        have : inB L x = true := by simp only [inB, decide_eq_true_eq]; rw [← HYX.out]; exact HM.out
        exact ⟨by rw [this]; rfl, HB.out⟩
      · have hb2 : (y == x) = false := by simp [hyx]
        have HYX := Lib.hid hyx
        clear hyx
        go_wp2_with fail
        go_roundw
        case rel => exact ⟨j + 1, hlt, by go_num, by rw [take_one L j hlt, ← HY.out, List.mem_append]; exact fun h => h.elim HN.out (fun h => HYX.out (List.mem_singleton.1 h).symm), rfl⟩
        case measure => simp [intOf]; omega
    · obtain rfl : j = L.length := by omega
      go_wp2_with fail
      go_ret
      have h := HN.out
      rw [List.take_length] at h
      have : inB L x = false := by simp only [inB, decide_eq_false_iff_not]; exact h
      exact ⟨by rw [this]; rfl, HB.out⟩

def RefL (w : World) (x : Int) (b : Bool) (e : Ending) (w' : World) : Prop := e = .returned (.tuple #[.int .i64 x, .bool b]) ∧ Below w.heap.size w w'

set_option maxHeartbeats 1000000 in
theorem reflast {w : World} {b : Nat} {v : Value} {L : List Int} (h : Has w b v L) (m : Int) : Calls Try.prog 30 #[.agg #[v, .int .i64 m]] w (RefL w (lastI L) (someB L)) := by
  obtain ⟨A, c, rfl⟩ := h.shape
  have hle := h.le
  have hb : Below w.heap.size w (w.alloc (.cells #[.slice A L.length c, .int .i64 m] 42)) := (Below.refl _ _).alloc (Nat.le_refl _) _
  have H := Lib.hid (h.below hb)
  have HB := Lib.hid hb
  clear hb
  rcases List.eq_nil_or_concat L with rfl | ⟨L0, x, rfl⟩
  · clear h
    go_enter Try.func30, Try.ntmps30
    go_wp2_with fail
    go_ret2
    exact ⟨rfl, HB.out⟩
  · rw [List.concat_eq_append] at *
    have hl : (L0 ++ [x]).length = L0.length + 1 := by simp
    obtain ⟨g, hA, _, hc⟩ := h.cellAt rfl L0.length (by omega)
    have hx : (L0 ++ [x]).getD L0.length 0 = x := by simp [List.getD_eq_getElem?_getD]
    rw [hx] at hc
    subst hA
    have e1 : lastI (L0 ++ [x]) = x := by simp [lastI, List.getLastD_eq_getLast?]
    have e2 : someB (L0 ++ [x]) = true := by simp [someB]
    rw [e1, e2]
    rw [hl] at hle HB ⊢
    have g1 : (0 : Int) ≤ (L0.length : Int) := by omega
    have g2 : (L0.length : Int) < (L0.length : Int) + 1 := by omega
    have hc' : (w.alloc (.cells #[.slice (some ⟨g, 0, none⟩) (L0.length + 1) c, .int .i64 m] 42)).cell? ⟨g, L0.length, none⟩ = some (.int .i64 x) := (HB.out.cell (p := ⟨g, L0.length, none⟩) (World.block_lt_of_cell? _ _ hc)).trans hc
    clear h e1 e2 hx hl H
    go_enter Try.func30, Try.ntmps30
    go_wp2_with fail
    go_ret2
    exact ⟨rfl, HB.out⟩

def RefNew (w : World) (m : Nat) (e : Ending) (w' : World) : Prop := e = .returned (.agg #[.slice none 0 0, .int .i64 m]) ∧ Below w.heap.size w w'

set_option maxHeartbeats 400000 in
theorem refnew (most : Int) (w : World) : Calls Try.prog 25 #[.int .i64 most] w (RefNew w (clamp most)) := by
  obtain ⟨m, e0⟩ : ∃ m, clamp most = m := ⟨_, rfl⟩
  rw [e0]
  obtain ⟨q, e1⟩ : ∃ q, (if 1024 < most then 1024 else most) = q := ⟨_, rfl⟩
  have e2 : (if 0 < q then q else 0) = (m : Int) := by unfold clamp at e0; subst e1; split <;> split at * <;> omega
  clear e0
  go_enter Try.func25, Try.ntmps25
  go_wp2_with fail
  refine bodyPost_ret (v := .agg #[.slice none 0 0, .int .i64 m]) (by simp [results, Try.results25, go_sem]) rfl ⟨rfl, ?_⟩
  exact (Below.refl _ _).alloc (Nat.le_refl _) _

/-- a list handed back by value, and whether it was done -/
def RefS (w : World) (b : Nat) (m : Int) (L : List Int) (r : Bool) (e : Ending) (w' : World) : Prop :=
  ∃ v, e = .returned (.tuple #[.agg #[v, .int .i64 m], .bool r]) ∧ Has w' b v L ∧ Below w.heap.size w w'

theorem two_of {w : World} {g : Nat} {x y : Value} {t : TypeId} (h : w.heap[g]? = some (.cells #[x, y] t (0, 0))) :
    w.cell? ⟨g, 0, none⟩ = some x ∧ w.cell? ⟨g, 1, none⟩ = some y ∧ w.frozen? ⟨g, 0, none⟩ = false ∧ w.frozen? ⟨g, 1, none⟩ = false := by
  simp [World.cell?, World.frozen?, h]

theorem two_blocks (w : World) (o1 o2 : Obj) : ((w.alloc o1).alloc o2).heap[w.heap.size]? = some o1 ∧ ((w.alloc o1).alloc o2).heap[w.heap.size + 1]? = some o2 ∧
    Below w.heap.size w ((w.alloc o1).alloc o2) ∧ ((w.alloc o1).alloc o2).heap.size = w.heap.size + 2 := by
  have s1 : (w.alloc o1).heap.size = w.heap.size + 1 := by simp
  refine ⟨?_, ?_, ((Below.refl _ _).alloc (Nat.le_refl _) _).alloc (by simp) _, by simp⟩
  · rw [Below.heap_alloc _ _ _ (by omega)]; exact heap_alloc_new w o1
  · rw [← s1]; exact heap_alloc_new _ o2

set_option maxHeartbeats 1000000 in
theorem refdrop_no {w : World} {b : Nat} {v : Value} {L : List Int} (h : Has w b v L) (m : Int) (x : Int) (hx : inB L x = false) :
    Calls Try.prog 28 #[.agg #[v, .int .i64 m], .int .i64 x] w (RefS w b m L false) := by
  obtain ⟨t0, t1, hb, hs⟩ := two_blocks w (.cells #[v, .int .i64 m] 42) (.cells #[.slice none 0 0, .int .i64 0] 42)
  obtain ⟨A, c, rfl⟩ := h.shape
  have H := Lib.hid (h.below hb)
  have HB := Lib.hid hb
  have T0 := Lib.hid t0
  have T1 := Lib.hid t1
  have HS := Lib.hid hs
  have HG := Lib.hid (fun k hk => (h.ge k hk).2)
  clear h hb t0 t1 hs
  go_enter Try.func28, Try.ntmps28
  go_wp2_with fail
  with_reducible refine (refhas H.out m x).mono ?_
  rintro e w2 ⟨rfl, b2⟩
  rw [hx]
  have HX := Lib.hid hx
  clear hx
  obtain ⟨k0, k1, _, _⟩ := two_of ((b2.block _ (lt_of_block T0.out)).trans T0.out)
  obtain ⟨j0, j1, z0', z1'⟩ := two_of ((b2.block _ (lt_of_block T1.out)).trans T1.out)
  have HH := Lib.hid (H.out.below b2)
  have HB2 := Lib.hid (HB.out.trans (b2.mono HB.out.size))
  obtain ⟨g0, hg0⟩ : ∃ g0, g0 = w.heap.size := ⟨_, rfl⟩
  have hg1 : w.heap.size ≤ g0 + 1 := by omega
  rw [← hg0] at k0 k1 j0 j1 z0' z1' ⊢
  have hlt : g0 + 1 < w2.heap.size := by have := World.block_lt_of_cell? _ _ j0; exact this
  clear b2 hg0
  go_wp2_with fail
  refine bodyPost_ret (v := .tuple #[.agg #[.slice A L.length c, .int .i64 m], .bool false]) (by simp [results, Try.results28, go_sem, j0, j1]) rfl ⟨_, rfl, ?_, ?_⟩
  · exact (HH.out.only ((Only.refl (fun k => k = g0 + 1) w2).setCell (p := ⟨g0 + 1, 0, none⟩) (.inl rfl) (.slice A L.length c)) (fun k hk e => by have := HG.out k hk; omega)).only ((Only.refl (fun k => k = g0 + 1) _).setCell (p := ⟨g0 + 1, 1, none⟩) (.inl rfl) (.int .i64 m)) (fun k hk e => by have := HG.out k hk; omega)
  · exact (HB2.out.setCell (p := ⟨g0 + 1, 0, none⟩) hg1 _).setCell (p := ⟨g0 + 1, 1, none⟩) hg1 _

set_option maxHeartbeats 4000000 in
theorem refdrop_yes {w : World} {b : Nat} {v : Value} {L : List Int} (h : Has w b v L) (hl : L.length ≤ 1024) (hbw : b ≤ w.heap.size) (m : Int) (x : Int) (hx : inB L x = true) :
    Calls Try.prog 28 #[.agg #[v, .int .i64 m], .int .i64 x] w (RefS w b m (wo L x) true) := by
  obtain ⟨t0, t1, hb, hs⟩ := two_blocks w (.cells #[v, .int .i64 m] 42) (.cells #[.slice none 0 0, .int .i64 0] 42)
  obtain ⟨A, c, rfl⟩ := h.shape
  have H := Lib.hid (h.below hb)
  have HB := Lib.hid hb
  have T0 := Lib.hid t0
  have T1 := Lib.hid t1
  clear h hb t0 t1 hs
  go_enter Try.func28, Try.ntmps28
  go_wp2_with fail
  with_reducible refine (refhas H.out m x).mono ?_
  rintro e w2 ⟨rfl, b2⟩
  rw [hx]
  have HX := Lib.hid hx
  clear hx
  have B0 := (b2.block _ (lt_of_block T0.out)).trans T0.out
  have B1 := (b2.block _ (lt_of_block T1.out)).trans T1.out
  obtain ⟨k0, k1, _, _⟩ := two_of B0
  obtain ⟨j0, j1, z0', z1'⟩ := two_of B1
  have HH := Lib.hid (H.out.below b2)
  have HB2 := Lib.hid (HB.out.trans (b2.mono HB.out.size))
  obtain ⟨g0, hg0⟩ : ∃ g0, g0 = w.heap.size := ⟨_, rfl⟩
  have hg1 : w.heap.size ≤ g0 + 1 := by omega
  rw [← hg0] at k0 k1 j0 j1 z0' z1' B0 B1 ⊢
  have HB1 := Lib.hid B1
  have HBW := Lib.hid (show b ≤ w2.heap.size from Nat.le_trans hbw HB2.out.size)
  clear b2 hg0 B0 B1
  go_wp2_with fail
  go_region_held3 (fun W => W.cell? ⟨g0, 0, none⟩ = some (.slice A L.length c) ∧ W.cell? ⟨g0, 1, none⟩ = some (.int .i64 m)) (go_keep)
    ((go_at_call 47; refine (without_any HH.out.drew hl x).mono ?_; rintro e w3 ⟨v3, rfl, h3, b3⟩; obtain ⟨A3, c3, rfl⟩ := h3.shape; have q0 := (b3.cell (p := ⟨g0, 0, none⟩) (World.block_lt_of_cell? _ _ k0)).trans k0; have q1 := (b3.cell (p := ⟨g0, 1, none⟩) (World.block_lt_of_cell? _ _ k1)).trans k1; have y0 := (b3.cell (p := ⟨g0 + 1, 0, none⟩) (World.block_lt_of_cell? _ _ j0)).trans j0; have y1 := (b3.cell (p := ⟨g0 + 1, 1, none⟩) (World.block_lt_of_cell? _ _ j1)).trans j1; have x0 := (b3.frozen (p := ⟨g0 + 1, 0, none⟩) (World.block_lt_of_cell? _ _ j0)).trans z0'; have x1 := (b3.frozen (p := ⟨g0 + 1, 1, none⟩) (World.block_lt_of_cell? _ _ j1)).trans z1'))
  have B3 := Lib.hid (HB2.out.drew.trans (b3.mono HB2.out.size))
  have H3 := Lib.hid (h3.mono HBW.out)
  have G3 := Lib.hid (fun k hk => (h3.ge k hk).1)
  have hg2 : g0 + 1 < w2.heap.size := World.block_lt_of_cell? _ _ j0
  clear b3 h3
  go_wp2_with fail
  refine bodyPost_ret (v := .tuple #[.agg #[.slice A3 (wo L x).length c3, .int .i64 m], .bool true]) (by simp [results, Try.results28, go_sem, y0, y1]) rfl ⟨_, rfl, ?_, ?_⟩
  · exact (H3.out.only ((Only.refl (fun k => k = g0 + 1) w3).setCell (p := ⟨g0 + 1, 0, none⟩) (.inl rfl) _) (fun k hk e => by have := G3.out k hk; simp at this; omega)).only ((Only.refl (fun k => k = g0 + 1) _).setCell (p := ⟨g0 + 1, 1, none⟩) (.inl rfl) (.int .i64 m)) (fun k hk e => by have := G3.out k hk; simp at this; omega)
  · exact (B3.out.setCell (p := ⟨g0 + 1, 0, none⟩) hg1 _).setCell (p := ⟨g0 + 1, 1, none⟩) hg1 _

theorem refdrop {w : World} {b : Nat} {v : Value} {L : List Int} (h : Has w b v L) (hl : L.length ≤ 1024) (hbw : b ≤ w.heap.size) (m : Int) (x : Int) :
    Calls Try.prog 28 #[.agg #[v, .int .i64 m], .int .i64 x] w (RefS w b m (wo L x) (inB L x)) := by
  cases hx : inB L x with
  | true => exact refdrop_yes h hl hbw m x hx
  | false =>
    have := refdrop_no h m x hx
    rwa [← wo_not (L := L) (x := x) (by simpa [inB] using hx)] at this

section
variable {P : Program} {w : World} {ops : Array Oper} {rest : List Oper} {o : Oper} {a : Act} {Q : Exit → Act → World → Prop}
/-- append(v, u...): both lists of the call's own -/
theorem app_list {b b2 : Nat} (hgd : o.guard = none) (s x : Operand) (ho : o.op = .call { callee := .builtin .append, args := #[s, x], argTypes := #[22, 22] })
    (ht : P.underlying 22 = some (.slice 3)) (hinfo : (P.info? 3).map (fun i => (i.zero, i.size, i.bytes)) = some (some (.int .i64 0), 1, 8))
    (v u : Value) (L M : List Int) (hs : a.eval s = v) (hx : a.eval x = u) (H1 : Has w b v L) (H2 : Has w b2 u M) (hbase : b ≤ w.heap.size) (hl : L.length ≤ 1000000) (hm : M.length ≤ 1000000)
    (h : ∀ v1 w1, Has w1 b v1 (L ++ M) → w.grownBy w1 v.ownBlock → wpList P ops Q rest (a.put o.dst v1) w1) : wpList P ops Q (o :: rest) a w := by
  obtain ⟨i0, hi, hz0, hz1, hz2⟩ := info_parts hinfo
  have hnil : u = .slice none 0 0 → M = [] → wpList P ops Q (o :: rest) a w := by
    intro e1 e2
    subst e1; subst e2
    refine wpList_append_own_none hgd s x 22 ho b 3 i0 1 ht hi v L.length (ints L) hs H1 hx (h v w ?_ (World.grownBy.refl _ _))
    rw [List.append_nil]; exact H1
  rcases H2.2 with ⟨e1, e2⟩ | ⟨g, cap, cur, e1, _, hh, h1, h2, h3, h4⟩
  · exact hnil e1 (List.length_eq_zero_iff.1 e2)
  · refine wpList_append_own_at w hgd s x 22 ho b 3 i0 _ 1 8 ht hi hz0 hz1 hz2 rfl (by omega) v L.length (ints L) hs H1 ⟨g, 0, none⟩ M.length cap (ints M) (by rw [hx, e1]) (by simp)
      (fun j y hj => World.ownsRow.cells H2 (g := g) (by rw [e1]; rfl) j y hj) (fun y hy => by
        unfold ints at hy
        obtain ⟨_, _, rfl⟩ := List.mem_map.1 hy
        rfl) (by simp only [maxLen]; omega) (by omega) hbase ?_
    intro v1 w1 hown hg _ _
    refine h v1 w1 ?_ hg
    unfold Has
    have : ints (L ++ M) = ints L ++ ints M := by simp [ints]
    rw [this, List.length_append]
    exact hown
end

set_option maxHeartbeats 1000000 in
theorem reftouch_no {w : World} {b m : Nat} {v : Value} {L : List Int} (h : Has w b v L) (_hm : m ≤ 1024) (x : Int) (hx : x < 0 ∨ (m : Int) ≤ x) :
    Calls Try.prog 27 #[.agg #[v, .int .i64 (m : Int)], .int .i64 x] w (RefS w b m L false) := by
  obtain ⟨t0, t1, hb, hs⟩ := two_blocks w (.cells #[v, .int .i64 (m : Int)] 42) (.cells #[v, .int .i64 (m : Int)] 42)
  obtain ⟨A, c, rfl⟩ := h.shape
  have H := Lib.hid (h.below hb)
  have HB := Lib.hid hb
  have T1 := Lib.hid t1
  obtain ⟨j0, j1, _, _⟩ := two_of t1
  clear h hb t0 t1 hs
  rcases hx with hx | hx
  all_goals
    go_enter Try.func27, Try.ntmps27
    go_wp2_with fail
    refine bodyPost_ret (v := .tuple #[.agg #[.slice A L.length c, .int .i64 (m : Int)], .bool false]) (by simp [results, Try.results27, go_sem]) rfl ⟨_, rfl, ?_, ?_⟩
    · exact H.out
    · exact HB.out

set_option maxHeartbeats 2000000 in
theorem reftouch_yes {w : World} {b m : Nat} {v : Value} {L : List Int} (h : Has w b v L) (hl : L.length ≤ 1024) (hbw : b ≤ w.heap.size) (_hm : m ≤ 1024) (x : Int) (hx0 : 0 ≤ x) (hx1 : x < m) :
    Calls Try.prog 27 #[.agg #[v, .int .i64 (m : Int)], .int .i64 x] w (RefS w b m (x :: wo L x) true) := by
  obtain ⟨t0, t1, hb, hs⟩ := two_blocks w (.cells #[v, .int .i64 (m : Int)] 42) (.cells #[.slice none 0 0, .int .i64 0] 42)
  obtain ⟨A, c, rfl⟩ := h.shape
  have hb2 : Below w.heap.size w (((w.alloc (.cells #[.slice A L.length c, .int .i64 (m : Int)] 42)).alloc (.cells #[.slice none 0 0, .int .i64 0] 42)).alloc (.cells #[.int .i64 x] 3)) := hb.alloc hb.size _
  have H := Lib.hid (h.below hb2)
  have HB := Lib.hid hb2
  have t0' := (Below.heap_alloc _ (.cells #[.int .i64 x] 3) _ (lt_of_block t0)).trans t0
  have t1' := (Below.heap_alloc _ (.cells #[.int .i64 x] 3) _ (lt_of_block t1)).trans t1
  have H1 := Has.lit ((w.alloc (.cells #[.slice A L.length c, .int .i64 (m : Int)] 42)).alloc (.cells #[.slice none 0 0, .int .i64 0] 42)) [x] b (by rw [hs]; omega) (by simp)
  rw [hs] at H1
  have HH1 := Lib.hid H1
  have T0 := Lib.hid t0'
  have T1 := Lib.hid t1'
  clear h hb t0 t1 hs hb2 t0' t1' H1
  go_enter Try.func27, Try.ntmps27
  go_wp2_with fail
  obtain ⟨w1, hw1⟩ : ∃ w1, w1 = ((w.alloc (.cells #[.slice A L.length c, .int .i64 (m : Int)] 42)).alloc (.cells #[.slice none 0 0, .int .i64 0] 42)).alloc (.cells #[.int .i64 x] 3) := ⟨_, rfl⟩
  have HX := Lib.hid (show Has w1 b (.slice (some ⟨w.heap.size + 2, 0, none⟩) 1 1) [x] by rw [hw1]; exact HH1.out)
  rw [← hw1] at H HB T0 T1 ⊢
  clear HH1 hw1
  with_reducible refine (without_any H.out hl x).mono ?_
  rintro e w3 ⟨v3, rfl, h3, b3⟩
  obtain ⟨A3, c3, rfl⟩ := h3.shape
  have B0 := (b3.block _ (lt_of_block T0.out)).trans T0.out
  have B1 := (b3.block _ (lt_of_block T1.out)).trans T1.out
  have HB3 := Lib.hid (HB.out.trans (b3.mono HB.out.size))
  have HX3 := Lib.hid (HX.out.below b3)
  have H3 := Lib.hid h3
  have HBW := Lib.hid (show b ≤ w3.heap.size from Nat.le_trans hbw HB3.out.size)
  obtain ⟨g0, hg0⟩ : ∃ g0, g0 = w.heap.size := ⟨_, rfl⟩
  have hg1 : w.heap.size ≤ g0 + 1 := by omega
  have hg2 : g0 + 1 < w1.heap.size := by have := lt_of_block T1.out; omega
  rw [← hg0] at B0 B1 HX3 ⊢
  have HB0 := Lib.hid B0
  have HB1 := Lib.hid B1
  have HWL := Lib.hid (show (wo L x).length ≤ 1000000 by have := rwo_le L x; omega)
  clear b3 h3 hg0 B0 B1
  go_wp2_with (at_builtin; refine app_list (b := b) (b2 := w1.heap.size) rfl (.tmp 18) (.tmp 22) rfl Try.underlying22 Try.info3 (.slice (some ⟨g0 + 2, 0, none⟩) 1 1) (.slice A3 _ c3) [x] (wo L x) rfl rfl HX3.out H3.out HBW.out (by simp) HWL.out ?_)
  intro v4 w4 h4 hg4
  obtain ⟨A4, c4, rfl⟩ := h4.shape
  have hne0 : some g0 ≠ (Value.slice (some ⟨g0 + 2, 0, none⟩) 1 1).ownBlock := by simp [Value.ownBlock]
  have hne1 : some (g0 + 1) ≠ (Value.slice (some ⟨g0 + 2, 0, none⟩) 1 1).ownBlock := by simp [Value.ownBlock]
  obtain ⟨k0, k1, _, _⟩ := two_of ((hg4.block _ (lt_of_block HB0.out) hne0).trans HB0.out)
  obtain ⟨j0, j1, z0', z1'⟩ := two_of ((hg4.block _ (lt_of_block HB1.out) hne1).trans HB1.out)
  have B4 := Lib.hid (HB3.out.grown hg4 HB3.out.size (fun k hk => by
    have : g0 + 2 = k := by simpa [Value.ownBlock] using hk
    omega))
  have e4 : ([x] ++ wo L x).length = (wo L x).length + 1 := by simp
  have H4 := Lib.hid (show Has w4 b (.slice A4 ([x] ++ wo L x).length c4) (x :: wo L x) from h4)
  have HNE := Lib.hid (show ∀ k, (Value.slice A4 ([x] ++ wo L x).length c4).ownBlock = some k → k ≠ g0 + 1 from fun k hk e => by
    subst e
    have hk : (Value.slice A4 (x :: wo L x).length c4).ownBlock = some (g0 + 1) := hk
    rcases h4.2 with ⟨h, _⟩ | ⟨g', cap, cur, hv, _, hh, _⟩
    · rw [h] at hk; simp [Value.ownBlock] at hk
    · rw [hv] at hk
      have : g' = g0 + 1 := by simpa [Value.ownBlock] using hk
      subst this
      have hb1 := (hg4.block _ (lt_of_block HB1.out) hne1).trans HB1.out
      rw [hb1] at hh
      injection hh with hh
      injection hh with _ ht
      exact absurd ht (by decide))
  clear h4 hg4 hne0 hne1
  go_wp2_with fail
  refine bodyPost_ret (v := .tuple #[.agg #[.slice A4 ([x] ++ wo L x).length c4, .int .i64 (m : Int)], .bool true]) (by simp [results, Try.results27, go_sem, j0, j1]) rfl ⟨_, rfl, ?_, ?_⟩
  · exact (H4.out.only ((Only.refl (fun k => k = g0 + 1) w4).setCell (p := ⟨g0 + 1, 0, none⟩) (.inl rfl) _) (fun k hk e => HNE.out k hk e)).only ((Only.refl (fun k => k = g0 + 1) _).setCell (p := ⟨g0 + 1, 1, none⟩) (.inl rfl) (.int .i64 m)) (fun k hk e => HNE.out k hk e)
  · exact (B4.out.setCell (p := ⟨g0 + 1, 0, none⟩) hg1 _).setCell (p := ⟨g0 + 1, 1, none⟩) hg1 _

theorem reftouch {w : World} {b m : Nat} {v : Value} {L : List Int} (h : Has w b v L) (hl : L.length ≤ 1024) (hbw : b ≤ w.heap.size) (hm : m ≤ 1024) (x : Int) :
    Calls Try.prog 27 #[.agg #[v, .int .i64 (m : Int)], .int .i64 x] w (RefS w b m (tch m L x) (mayB m x)) := by
  by_cases hr : 0 ≤ x ∧ x < m
  · have e1 : mayB m x = true := by simp [mayB, hr]
    have e2 : tch m L x = x :: wo L x := by unfold tch; rw [if_pos hr]
    rw [e1, e2]
    exact reftouch_yes h hl hbw hm x hr.1 hr.2
  · have e1 : mayB m x = false := by simp only [mayB, decide_eq_false_iff_not]; exact hr
    have e2 : tch m L x = L := by unfold tch; rw [if_neg hr]
    rw [e1, e2]
    exact reftouch_no h hm x (by omega)

end Go.Proofs.Ytjcmbddiffebhaa
