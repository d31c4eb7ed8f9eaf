/-
  RecencyPlays' walk: the list plays as the document's own list does.
-/
import Derived.Test.YtjcmbddiffebhaaRef10
import Derived.Test.YtjcmbddiffebhaaDrains
import Derived.Deep.DeepCutAuto
namespace Go.Proofs.Ytjcmbddiffebhaa
open Go.RowKit

/-- the document's list, in a block of its own -/
def Box (w : World) (gb : Nat) (b : Nat) (m : Nat) (L : List Int) : Prop :=
  ∃ v, w.heap[gb]? = some (.cells #[v, .int .i64 m] 42 (0, 0)) ∧ Has w b v L

theorem has_ne {w : World} {b g : Nat} {v : Value} {L : List Int} {c : Array Value} {q : Nat × Nat} (h : Has w b v L) (hg : w.heap[g]? = some (.cells c 42 q)) : ∀ k, v.ownBlock = some k → k ≠ g := by
  intro k hk e
  subst e
  rcases h.2 with ⟨h, _⟩ | ⟨g', cap, cur, hv, _, hh, _⟩
  · rw [h] at hk; simp [Value.ownBlock] at hk
  · rw [hv] at hk
    have : g' = k := by simpa [Value.ownBlock] using hk
    subst this
    rw [hg] at hh
    injection hh with hh
    injection hh with _ ht
    exact absurd ht (by decide)

def PL (w : World) (lo gb m : Nat) (Z : List (Bool × Int)) (i : Value) (wr : World) : Prop :=
  ∃ k : Nat, k ≤ Z.length ∧ i = .int .i64 k ∧ Rec wr lo m (acts m (Z.take k)) ∧ Box wr gb (lo + 3) m (acts m (Z.take k)) ∧ Below w.heap.size w wr

theorem Box.only {w w' : World} {gb b m : Nat} {L : List Int} {S : Nat → Prop} (h : Box w gb b m L) (o : Only S w w') (hs : ∀ k, b ≤ k → ¬ S k) (hg : b ≤ gb) : Box w' gb b m L := by
  obtain ⟨v, hv, hh⟩ := h
  exact ⟨v, (o.block _ (lt_of_block hv) (hs _ hg)).trans hv, hh.only o (fun j hj => hs j (hh.ge j hj).1)⟩

theorem set_two {w : World} {g : Nat} {x y u v : Value} (h : w.heap[g]? = some (.cells #[x, y] 42 (0, 0))) :
    ((w.setCell ⟨g, 0, none⟩ u).setCell ⟨g, 1, none⟩ v).heap[g]? = some (.cells #[u, v] 42 (0, 0)) := by
  have h1 : (w.setCell ⟨g, 0, none⟩ u).heap[g]? = some (.cells #[u, y] 42 (0, 0)) := by
    simp [World.setCell, Array.getElem?_modify, h]
  generalize (w.setCell ⟨g, 0, none⟩ u) = w1 at h1
  simp [World.setCell, Array.getElem?_modify, h1]

theorem only_two (w : World) (g : Nat) (u v : Value) : Only (fun k => k = g) w ((w.setCell ⟨g, 0, none⟩ u).setCell ⟨g, 1, none⟩ v) :=
  ((Only.refl (fun k => k = g) w).setCell (p := ⟨g, 0, none⟩) (.inl rfl) u).setCell (p := ⟨g, 1, none⟩) (.inl rfl) v

theorem box_set {w : World} {gc b m : Nat} {T : List Int} {v5 x y : Value} (hg : w.heap[gc]? = some (.cells #[x, y] 42 (0, 0))) (h5 : Has w b v5 T) :
    Box ((w.setCell ⟨gc, 0, none⟩ v5).setCell ⟨gc, 1, none⟩ (.int .i64 m)) gc b m T :=
  ⟨v5, set_two hg, h5.only (only_two w gc _ _) (has_ne h5 hg)⟩

theorem box_other {w : World} {gb gc b m : Nat} {L : List Int} {u v x y : Value} (hg : w.heap[gc]? = some (.cells #[x, y] 42 (0, 0))) (h : Box w gb b m L) (hn : gb ≠ gc) :
    Box ((w.setCell ⟨gc, 0, none⟩ u).setCell ⟨gc, 1, none⟩ v) gb b m L := by
  obtain ⟨v0, h0, h1⟩ := h
  exact ⟨v0, ((only_two w gc u v).block _ (lt_of_block h0) hn).trans h0, h1.only (only_two w gc _ _) (has_ne h1 hg)⟩

theorem Box.below {w w' : World} {gb b m : Nat} {L : List Int} (h : Box w gb b m L) (o : Below w.heap.size w w') (hg : b ≤ gb) : Box w' gb b m L :=
  h.only (S := fun _ => False) (Only.ofBelow o) (fun _ _ h => h) hg

theorem Box.lt {w : World} {gb b m : Nat} {L : List Int} (h : Box w gb b m L) : gb < w.heap.size := by
  obtain ⟨v, h, _⟩ := h
  exact lt_of_block h

/-- both boxes stand -/
def Two (w wx : World) (lo gb gc m : Nat) (M L T : List Int) : Prop :=
  gb ≠ gc ∧ lo + 3 ≤ gc ∧ Rec wx lo m M ∧ Box wx gb (lo + 3) m L ∧ Box wx gc (lo + 3) m T ∧ Below w.heap.size w wx
def CutA (w : World) (lo gb m : Nat) (L M T : List Int) (c o : Value) (r : Bool) (wx : World) : Prop :=
  ∃ gc, c = .pointer (some ⟨gc, 0, none⟩) ∧ o = .bool r ∧ Two w wx lo gb gc m M L T

section
variable {w w4 w5 : World} {lo gb gc m : Nat} {L M T : List Int} {v5 : Value} {r : Bool}
theorem cut_1 (b4 : Below w.heap.size w w4) (r4 : Rec w4 lo m M) (bx : Box w4 gb (lo + 3) m L) (hgl : lo + 3 ≤ gb) (h5 : Has w5 (lo + 3) v5 T) (b5 : Below w4.heap.size w4 w5) :
    CutA w lo gb m L M T (.pointer (some ⟨w5.heap.size, 0, none⟩)) (.bool r) r (w5.alloc (.cells #[v5, .int .i64 m] 42)) := by
  have ha := (Below.refl w5.heap.size w5).alloc (Nat.le_refl _) (.cells #[v5, .int .i64 m] 42)
  have hb := b5.size
  refine ⟨_, rfl, rfl, Nat.ne_of_lt (Nat.lt_of_lt_of_le bx.lt hb), Nat.le_trans r4.lt hb, (r4.below b5).below ha, (bx.below b5 hgl).below ha hgl, ⟨v5, heap_alloc_new _ _, h5.below ha⟩, ?_⟩
  exact (b4.trans (b5.mono b4.size)).trans (ha.mono (Nat.le_trans b4.size hb))

theorem two_set {x y : Value} (b4 : Below w.heap.size w w4) (r4 : Rec w4 lo m M) (bx : Box w4 gb (lo + 3) m L) (hgc : lo + 3 ≤ gc) (hn : gb ≠ gc) (hlo : w.heap.size ≤ lo)
    (hg : w4.heap[gc]? = some (.cells #[x, y] 42 (0, 0))) (h5 : Has w4 (lo + 3) v5 T) :
    CutA w lo gb m L M T (.pointer (some ⟨gc, 0, none⟩)) (.bool r) r ((w4.setCell ⟨gc, 0, none⟩ v5).setCell ⟨gc, 1, none⟩ (.int .i64 m)) :=
  ⟨gc, rfl, rfl, hn, hgc, r4.only (only_two w4 gc _ _) (fun k hk h => by unfold In3 at hk; omega), box_other hg bx hn, box_set hg h5,
    (b4.setCell (p := ⟨gc, 0, none⟩) (by show w.heap.size ≤ gc; omega) _).setCell (p := ⟨gc, 1, none⟩) (by show w.heap.size ≤ gc; omega) _⟩

theorem cut_2 {O : Obj} {x y : Value} (hO : O = .cells #[x, y] 42) (b4 : Below w.heap.size w w4) (r4 : Rec w4 lo m M) (bx : Box w4 gb (lo + 3) m L) (hgl : lo + 3 ≤ gb) (hlo : w.heap.size ≤ lo)
    (h5 : Has w5 (lo + 3) v5 T) (b5 : Below (w4.alloc O).heap.size (w4.alloc O) w5) :
    CutA w lo gb m L M T (.pointer (some ⟨w4.heap.size, 0, none⟩)) (.bool r) r ((w5.setCell ⟨w4.heap.size, 0, none⟩ v5).setCell ⟨w4.heap.size, 1, none⟩ (.int .i64 m)) := by
  have hn := heap_alloc_new w4 O
  have ha := (Below.refl w4.heap.size w4).alloc (Nat.le_refl _) O
  have hb := ha.trans (b5.mono ha.size)
  refine two_set (b4.trans (hb.mono b4.size)) (r4.below hb) (bx.below hb hgl) r4.lt (Nat.ne_of_lt bx.lt) hlo (x := x) (y := y) ?_ h5
  rw [← hO]
  exact (b5.block _ (lt_of_block hn)).trans hn

theorem cut_3 (h : Two w w4 lo gb gc m M L T) (hgl : lo + 3 ≤ gb) (hlo : w.heap.size ≤ lo) {T' : List Int} (h5 : Has w5 (lo + 3) v5 T') (b5 : Below w4.heap.size w4 w5) :
    CutA w lo gb m L M T' (.pointer (some ⟨gc, 0, none⟩)) (.bool r) r ((w5.setCell ⟨gc, 0, none⟩ v5).setCell ⟨gc, 1, none⟩ (.int .i64 m)) := by
  obtain ⟨hn, hgc, r4, bx, ⟨v, hv, _⟩, b4⟩ := h
  exact two_set (b4.trans (b5.mono b4.size)) (r4.below b5) (bx.below b5 hgl) hgc hn hlo ((b5.block _ (lt_of_block hv)).trans hv) h5

def One (w wx : World) (lo gb m : Nat) (M T : List Int) : Prop := Rec wx lo m M ∧ Box wx gb (lo + 3) m T ∧ Below w.heap.size w wx

theorem One.rec_ (h : One w w4 lo gb m M T) : Rec w4 lo m M := h.1

theorem one_set (r4 : Rec w4 lo m M) (bx : Box w4 gb (lo + 3) m L) (b4 : Below w.heap.size w w4) (hgl : lo + 3 ≤ gb) (hlo : w.heap.size ≤ lo) (h5 : Has w4 (lo + 3) v5 T) :
    One w ((w4.setCell ⟨gb, 0, none⟩ v5).setCell ⟨gb, 1, none⟩ (.int .i64 m)) lo gb m M T := by
  obtain ⟨v, hv, _⟩ := bx
  exact ⟨r4.only (only_two w4 gb _ _) (fun k hk h => by unfold In3 at hk; omega), box_set hv h5,
    (b4.setCell (p := ⟨gb, 0, none⟩) (by show w.heap.size ≤ gb; omega) _).setCell (p := ⟨gb, 1, none⟩) (by show w.heap.size ≤ gb; omega) _⟩
end

theorem bw_step {w9 u w10 : World} (h : Below w9.heap.size w9 u) (b : Below u.heap.size u w10) : Below w9.heap.size w9 w10 := h.trans (b.mono h.size)

theorem refhas_eq {w : World} {b : Nat} {v : Value} {L : List Int} {x : Int} {r : Bool} (h : Has w b v L) (m : Int) (hr : inB L x = r) :
    Calls Try.prog 32 #[.agg #[v, .int .i64 m], .int .i64 x] w (RefB w r) := hr ▸ refhas h m x

theorem pl_end {w w9 wl : World} {lo gb m k : Nat} {Z : List (Bool × Int)} {L M : List Int} {ob : Bool} {x : Int} {v : Value} (hk : k < Z.length) (hx : (ob, x) = Z.getD k (false, 0)) (hl : L = acts m (Z.take k)) (hm : M = act m L ob x)
    (r : Rec w9 lo m M) (t : w9.heap[gb]? = some (.cells #[v, .int .i64 m] 42 (0, 0))) (h : Has w9 (lo + 3) v M) (b : Below w.heap.size w w9) (hgl : lo + 3 ≤ gb) (bw : Below w9.heap.size w9 wl) : PL w lo gb m Z (.int .i64 ((k : Int) + 1)) wl := by
  have e : acts m (Z.take (k + 1)) = M := by rw [take_one' (false, 0) Z k hk, acts_snoc, ← hx, ← hl, ← hm]
  refine ⟨k + 1, hk, by go_num, by rw [e]; exact r.below bw, by rw [e]; exact Box.below ⟨v, t, h⟩ bw hgl, b.trans (bw.mono b.size)⟩

set_option maxHeartbeats 4000000 in
set_option maxRecDepth 100000 in
theorem plays10_walk (most : Int) (A : Option Addr) (c : Nat) (Z : List (Bool × Int)) (i0 : Int) (w : World) (hZ : Z.length ≤ 9223372036854775807) (hr : ReadsA w A Z) :
    Calls Try.prog 5 #[.int .i64 most, .slice A Z.length c, .int .i64 i0] w (TrueNew w) := by
  have HR := Lib.hid hr
  clear hr
  go_enter Try.func5, Try.ntmps5
  go_wp2_with fail
  with_reducible refine (awake10 w).mono ?_
  rintro e w1 ⟨rfl, b1⟩
  have B1 := Lib.hid b1
  clear b1
  by_cases hlen : Z.length ≤ 100
  · go_wp2_with fail
    with_reducible refine (new_rec most w1).mono ?_
    rintro e w2 ⟨rfl, r2, b2, s2⟩
    obtain ⟨m, hm⟩ : ∃ m, m = clamp most := ⟨_, rfl⟩
    rw [← hm] at r2
    have B2 := Lib.hid (B1.out.trans (b2.mono B1.out.size))
    have HM := Lib.hid hm
    obtain ⟨lo, hlo⟩ : ∃ lo, lo = w1.heap.size := ⟨_, rfl⟩
    have hwlo : w.heap.size ≤ lo := by rw [hlo]; exact B1.out.size
    rw [← hlo] at r2 ⊢
    have R2 := Lib.hid r2
    clear r2 b2 hm hlo s2
    go_wp2_with fail
    with_reducible refine (refnew most w2).mono ?_
    rintro e w3 ⟨rfl, b3⟩
    rw [← HM.out]
    have B3 := Lib.hid ((B2.out.trans (b3.mono B2.out.size)).alloc (Below.size (B2.out.trans (b3.mono B2.out.size))) (.cells #[.slice none 0 0, .int .i64 m] 42))
    have R3 := Lib.hid ((R2.out.below b3).below ((Below.refl _ _).alloc (Nat.le_refl _) (.cells #[.slice none 0 0, .int .i64 m] 42)))
    have hgl := (R2.out.below b3).lt
    have hx3 := Lib.hid (heap_alloc_new w3 (.cells #[.slice none 0 0, .int .i64 m] 42))
    go_wp2_with fail
    obtain ⟨gb, hgb⟩ : ∃ gb, gb = w3.heap.size := ⟨_, rfl⟩
    rw [← hgb] at hgl ⊢
    have hx3 := Lib.hid (show (w3.alloc (.cells #[.slice none 0 0, .int .i64 m] 42)).heap[gb]? = some (.cells #[.slice none 0 0, .int .i64 m] 42) by rw [hgb]; exact hx3.out)
    have PL0 := Lib.hid (show PL w lo gb m Z (.int .i64 0) (w3.alloc (.cells #[.slice none 0 0, .int .i64 m] 42)) from
      ⟨0, Nat.zero_le _, rfl, by simpa [acts] using R3.out, ⟨.slice none 0 0, hx3.out, Has.nil _ _⟩, B3.out⟩)
    clear b3 hgb
    go_loopw [10] (fun i wr => PL w lo gb m Z i wr) (fun i _ => Z.length - (intOf i).toNat)
    case atStart => exact PL0.out
    case round =>
      clear hx3
      obtain ⟨k, hk, rfl, r3, bx3, b3⟩ := hrel
      have R3 := Lib.hid r3
      have B3 := Lib.hid b3
      have hle := r3.le
      have g := Lib.hid hle.2.2
      have hL : (acts m (Z.take k)).length ≤ 1024 := by omega
      have hm1 : m ≤ 1024 := hle.1
      by_cases hlt : k < Z.length
      · obtain ⟨b, off, rfl, hb, hc0, hc1⟩ := HR.out k hlt
        obtain ⟨⟨ob, x⟩, hx⟩ : ∃ a, a = Z.getD k (false, 0) := ⟨_, rfl⟩
        rw [← hx] at hc0 hc1
        have HX := Lib.hid hx
        have hd0 := fun W (h : Below w.heap.size w W) => (h.cell (p := ⟨b, off + k * 2, none⟩) hb).trans hc0
        have hd1 := fun W (h : Below w.heap.size w W) => (h.cell (p := ⟨b, off + k * 2 + 1, none⟩) hb).trans hc1
        have D0 := Lib.hid hd0
        have D1 := Lib.hid hd1
        obtain ⟨L, hL'⟩ : ∃ L, L = acts m (Z.take k) := ⟨_, rfl⟩
        rw [← hL'] at R3 g hL bx3
        have HL := Lib.hid hL'
        have BX3 := Lib.hid bx3
        have e0 := D0.out _ B3.out
        have e1 := D1.out _ B3.out
        clear r3 b3 hc0 hc1 hx hd0 hd1 hle hL' bx3
        have g1 : (0 : Int) ≤ (k : Int) := by omega
        have g2 : (k : Int) < (Z.length : Int) := by omega
        go_wp2_with fail
        with_reducible refine (do_rec R3.out ob x).mono ?_
        rintro e w4 ⟨rfl, r4, o4⟩
        have B4 := Lib.hid (in3_below o4 B3.out hwlo)
        have BX4 := Lib.hid (BX3.out.only o4 (fun k hk h => by have := h.2; omega) hgl)
        obtain ⟨M, hM⟩ : ∃ M, M = act m L ob x := ⟨_, rfl⟩
        obtain ⟨ok, hok⟩ : ∃ ok, ok = actB m L ob x := ⟨_, rfl⟩
        rw [← hM] at r4
        rw [← hok]
        have R4 := Lib.hid r4
        have HMM := Lib.hid hM
        have HK := Lib.hid hok
        clear r4 o4 hM hok e0 e1
        obtain ⟨v4, t4, h4⟩ := BX4.out
        obtain ⟨A4, c4, rfl⟩ := h4.shape
        have T4 := Lib.hid t4
        have H4 := Lib.hid h4
        have HBW := Lib.hid (show lo + 3 ≤ w4.heap.size from R4.out.lt)
        obtain ⟨k0, k1, _, _⟩ := two_of t4
        have e0 := D0.out _ B4.out
        have e1 := D1.out _ B4.out
        clear t4 h4
        go_wp2_with fail
        go_upto_region 10 with fail
        go_cut [12, 13] (fun gc o wx => CutA w lo gb m L M (tch m L x) gc o (mayB m x) wx)
        case first =>
          have TN := Lib.hid (show (w4.alloc (.cells #[.slice none 0 0, .int .i64 0] 42)).drew.heap[w4.heap.size]? = some (.cells #[.slice none 0 0, .int .i64 0] 42) from heap_alloc_new w4 _)
          have BN := Lib.hid ((Below.refl w4.heap.size w4).alloc (Nat.le_refl _) (.cells #[.slice none 0 0, .int .i64 0] 42)).drew
          have HBW2 := Lib.hid (show lo + 3 ≤ (w4.alloc (.cells #[.slice none 0 0, .int .i64 0] 42)).drew.heap.size from Nat.le_trans HBW.out BN.out.size)
          obtain ⟨k0', k1', _, _⟩ := two_of ((BN.out.block _ (lt_of_block T4.out)).trans T4.out)
          have n1 := Nat.ne_of_lt (lt_of_block T4.out)
          have n2 : b ≠ w4.heap.size := Nat.ne_of_lt (World.block_lt_of_cell? _ _ e1)
          have n1' := n1.symm
          have n2' := n2.symm
          have e1' := (BN.out.cell (World.block_lt_of_cell? _ _ e1)).trans e1
          go_region_held3 (fun W => W.cell? ⟨gb, 0, none⟩ = some (.slice A4 L.length c4) ∧ W.cell? ⟨gb, 1, none⟩ = some (.int .i64 m) ∧ W.cell? ⟨b, off + k * 2 + 1, none⟩ = some (.int .i64 x)) (go_keep)
            ((first
              | (go_at_call 27; refine (reftouch H4.out.drew hL HBW.out hm1 x).mono ?_; rintro e w5 ⟨v5, rfl, h5, b5⟩; obtain ⟨A5, c5, rfl⟩ := h5.shape; have q0 := (b5.cell (p := ⟨gb, 0, none⟩) (World.block_lt_of_cell? _ _ k0)).trans k0; have q1 := (b5.cell (p := ⟨gb, 1, none⟩) (World.block_lt_of_cell? _ _ k1)).trans k1; have q2 := (b5.cell (p := ⟨b, off + k * 2 + 1, none⟩) (World.block_lt_of_cell? _ _ e1)).trans e1)
              | (go_at_call 27; refine (reftouch (H4.out.alloc _).drew hL HBW2.out hm1 x).mono ?_; rintro e w5 ⟨v5, rfl, h5, b5⟩; obtain ⟨A5, c5, rfl⟩ := h5.shape; have q0 := (b5.cell (p := ⟨gb, 0, none⟩) (World.block_lt_of_cell? _ _ k0')).trans k0'; have q1 := (b5.cell (p := ⟨gb, 1, none⟩) (World.block_lt_of_cell? _ _ k1')).trans k1'; have q2 := (b5.cell (p := ⟨b, off + k * 2 + 1, none⟩) (World.block_lt_of_cell? _ _ e1')).trans e1'; obtain ⟨y0, y1, x0, x1⟩ := two_of ((b5.block _ (lt_of_block TN.out)).trans TN.out))))
          all_goals (try go_wp2_with fail)
          all_goals go_meet
          all_goals first | exact cut_1 B4.out R4.out BX4.out hgl h5 ⟨b5.os, b5.tape, b5.output, b5.size, b5.block⟩ | exact cut_2 rfl B4.out R4.out BX4.out hgl hwlo h5 ⟨b5.os, b5.tape, b5.output, b5.size, b5.block⟩
        case rest =>
          obtain ⟨gc, rfl, rfl, htwo⟩ := hcut
          clear e0 e1 k0 k1
          obtain ⟨pi, hpi⟩ : ∃ p, inB M i0 = p := ⟨_, rfl⟩
          obtain ⟨px, hpx⟩ : ∃ p, inB M x = p := ⟨_, rfl⟩
          have HPI := Lib.hid hpi
          have HPX := Lib.hid hpx
          have EQM := Lib.hid (show eqB M M = true by simp [eqB])
          clear hpi hpx
          have e0 := D0.out _ htwo.2.2.2.2.2
          cases ob with
          | false =>
            rw [show tch m L x = M from HMM.out.symm] at htwo
            rw [show mayB m x = ok from HK.out.symm]
            have TW := Lib.hid htwo
            obtain ⟨hn, hgc, rc, bb, ⟨vc, tc, hc1⟩, bc⟩ := htwo
            obtain ⟨Ac, cc, rfl⟩ := hc1.shape
            have ONE := Lib.hid (one_set rc bb bc hgl hwlo hc1)
            obtain ⟨vb, tb, hb1⟩ := bb
            obtain ⟨k0, k1, x0, x1⟩ := two_of tb
            obtain ⟨j0, j1, _, _⟩ := two_of tc
            have hn' := hn.symm
            clear rc tb tc hb1 hc1 bc
            obtain ⟨l, hl⟩ : ∃ l, l = lastI M := ⟨_, rfl⟩
            obtain ⟨s, hs⟩ : ∃ s, s = someB M := ⟨_, rfl⟩
            have HLL := Lib.hid hl
            have HSS := Lib.hid hs
            clear hl hs
            go_wp2_with fail
            obtain ⟨wd, hwd⟩ : ∃ wd, wd = (wc.setCell ⟨gb, 0, none⟩ (.slice Ac M.length cc)).setCell ⟨gb, 1, none⟩ (.int .i64 m) := ⟨_, rfl⟩
            rw [← hwd] at ONE ⊢
            clear hwd k0 k1 j0 j1 x0 x1
            with_reducible refine (last_rec ONE.out.rec_).mono ?_
            rintro e w8 ⟨rfl, q, rfl⟩
            rw [← HLL.out, ← HSS.out]
            obtain ⟨rd, ⟨vd, td, hd⟩, bd⟩ := ONE.out
            obtain ⟨Ad, cd, rfl⟩ := hd.shape
            have TD := Lib.hid (show (wd.drewN q).heap[gb]? = _ from td)
            have HD := Lib.hid (hd.drewN q)
            have RD := Lib.hid (rd.drewN q)
            have BD := Lib.hid (below_drewN bd q)
            obtain ⟨k0, k1, _, _⟩ := two_of td
            clear td hd rd bd
            go_wp2_with fail
            with_reducible refine (reflast HD.out m).mono ?_
            rintro e w9 ⟨rfl, b9⟩
            rw [← HLL.out, ← HSS.out]
            have R9 := Lib.hid (RD.out.below b9)
            have H9 := Lib.hid (HD.out.below b9)
            have T9 := Lib.hid ((b9.block _ (lt_of_block TD.out)).trans TD.out)
            have B9 := Lib.hid (BD.out.trans (b9.mono BD.out.size))
            clear b9 k0 k1
            have FR := Lib.hid (fun W (h : Below w9.heap.size w9 W) => R9.out.below h)
            have FH := Lib.hid (fun W (h : Below w9.heap.size w9 W) => H9.out.below h)
            have FC := Lib.hid (fun W (h : Below w9.heap.size w9 W) => two_of ((h.block _ (lt_of_block T9.out)).trans T9.out))
            have FX := Lib.hid (fun W (h : Below w9.heap.size w9 W) => D1.out W (B9.out.trans (h.mono B9.out.size)))
            have BW := Lib.hid (Below.refl w9.heap.size w9)
            obtain ⟨q0, q1, _, _⟩ := FC.out _ BW.out
            have q2 := FX.out _ BW.out
            have f1 : (ok != ok) = false := by simp
            have f2 : (l != l) = false := by simp
            have f3 : (s != s) = false := by simp
            have f4 : ((M.length : Int) != (M.length : Int)) = false := by simp
            have f5 : (pi != pi) = false := by simp
            have f6 : (px != px) = false := by simp
            go_wp2_with fail
            go_region_held3 (fun W => W.cell? ⟨gb, 0, none⟩ = some (.slice Ad M.length cd) ∧ W.cell? ⟨gb, 1, none⟩ = some (.int .i64 m) ∧ W.cell? ⟨b, off + k * 2 + 1, none⟩ = some (.int .i64 x)) (go_keep)
              ((first
                | (go_at_call 18; (with_reducible refine (order_rec (FR.out _ ?_)).mono ?_); exact ⟨BW.out.os, BW.out.tape, BW.out.output, BW.out.size, BW.out.block⟩; rintro e w10 ⟨v10, rfl, h10, b10⟩; obtain ⟨A10, c10, rfl⟩ := h10.shape; have BT := Lib.hid (Below.refl w10.heap.size w10); have FT := Lib.hid (fun W (h : Below w10.heap.size w10 W) => h10.below h); have BW := Lib.hid (bw_step (by exact ⟨BW.out.os, BW.out.tape, BW.out.output, BW.out.size, BW.out.block⟩) b10); obtain ⟨q0, q1, _, _⟩ := FC.out _ BW.out; have q2 := FX.out _ BW.out; clear h10 b10)
                | (go_at_call 17; (with_reducible refine (ints_eq (FT.out _ ?_) (FH.out _ ?_) EQM.out).mono ?_); exact ⟨BT.out.os, BT.out.tape, BT.out.output, BT.out.size, BT.out.block⟩; exact ⟨BW.out.os, BW.out.tape, BW.out.output, BW.out.size, BW.out.block⟩; rintro e w11 ⟨rfl, q11, rfl⟩)
                | (go_at_call 31; (with_reducible refine (len_rec (FR.out _ ?_)).mono ?_); exact ⟨BW.out.os, BW.out.tape, BW.out.output, BW.out.size, BW.out.block⟩; rintro e w12 ⟨rfl, rfl⟩)
                | (go_at_call 16; (with_reducible refine (has_eq (FR.out _ ?_) HPI.out).mono ?_); exact ⟨BW.out.os, BW.out.tape, BW.out.output, BW.out.size, BW.out.block⟩; rintro e w13 ⟨rfl, rfl⟩)
                | (go_at_call 16; (with_reducible refine (has_eq (FR.out _ ?_) HPX.out).mono ?_); exact ⟨BW.out.os, BW.out.tape, BW.out.output, BW.out.size, BW.out.block⟩; rintro e w13 ⟨rfl, rfl⟩)
                | (go_at_call 32; (with_reducible refine (refhas_eq (FH.out _ ?_) m HPI.out).mono ?_); exact ⟨BW.out.os, BW.out.tape, BW.out.output, BW.out.size, BW.out.block⟩; rintro e w14 ⟨rfl, b14⟩; have BW := Lib.hid (bw_step (by exact ⟨BW.out.os, BW.out.tape, BW.out.output, BW.out.size, BW.out.block⟩) b14); obtain ⟨q0, q1, _, _⟩ := FC.out _ BW.out; have q2 := FX.out _ BW.out; clear b14)
                | (go_at_call 32; (with_reducible refine (refhas_eq (FH.out _ ?_) m HPX.out).mono ?_); exact ⟨BW.out.os, BW.out.tape, BW.out.output, BW.out.size, BW.out.block⟩; rintro e w14 ⟨rfl, b14⟩; have BW := Lib.hid (bw_step (by exact ⟨BW.out.os, BW.out.tape, BW.out.output, BW.out.size, BW.out.block⟩) b14); obtain ⟨q0, q1, _, _⟩ := FC.out _ BW.out; have q2 := FX.out _ BW.out; clear b14)))
            all_goals (try go_wp2_with fail)
            all_goals go_roundw
            all_goals first
              | (case measure => (simp [intOf]; omega))
              | skip
            all_goals first
              | exact pl_end hlt HX.out HL.out HMM.out R9.out T9.out H9.out B9.out hgl ⟨BW.out.os, BW.out.tape, BW.out.output, BW.out.size, BW.out.block⟩
              | ((repeat apply Exists.intro); exact ⟨pl_end hlt HX.out HL.out HMM.out R9.out T9.out H9.out B9.out hgl ⟨BW.out.os, BW.out.tape, BW.out.output, BW.out.size, BW.out.block⟩, rfl⟩)
              | (simp [intOf]; omega)
          | true =>
            have TW := Lib.hid htwo
            have e1 := D1.out _ htwo.2.2.2.2.2
            obtain ⟨hn, hgc, rc, ⟨vb, tb, hb1⟩, ⟨vc, tc, hc1⟩, bc⟩ := htwo
            obtain ⟨Ab, cb, rfl⟩ := hb1.shape
            have HB1 := Lib.hid hb1
            have TC := Lib.hid tc
            have HBC := Lib.hid (show lo + 3 ≤ wc.heap.size from rc.lt)
            obtain ⟨k0, k1, _, _⟩ := two_of tb
            obtain ⟨j0, j1, y0, y1⟩ := two_of tc
            have n2 : b ≠ gc := by omega
            have n1 := hn.symm
            have n2' := n2.symm
            clear rc tb tc hb1 hc1 bc
            go_upto_region 12 with fail
            go_cut [13] (fun o wx => CutA w lo gb m L M (wo L x) (.pointer (some ⟨gc, 0, none⟩)) o (inB L x) wx)
            case first =>
              go_region_held3 (fun W => W.cell? ⟨gb, 0, none⟩ = some (.slice Ab L.length cb) ∧ W.cell? ⟨gb, 1, none⟩ = some (.int .i64 m) ∧ W.cell? ⟨b, off + k * 2 + 1, none⟩ = some (.int .i64 x)) (go_keep)
                ((go_at_call 28; refine (refdrop HB1.out.drew hL HBC.out m x).mono ?_; rintro e w6 ⟨v6, rfl, h6, b6⟩; obtain ⟨A6, c6, rfl⟩ := h6.shape; have q0 := (b6.cell (p := ⟨gb, 0, none⟩) (World.block_lt_of_cell? _ _ k0)).trans k0; have q1 := (b6.cell (p := ⟨gb, 1, none⟩) (World.block_lt_of_cell? _ _ k1)).trans k1; have q2 := (b6.cell (p := ⟨b, off + k * 2 + 1, none⟩) (World.block_lt_of_cell? _ _ e1)).trans e1; obtain ⟨z0, z1, z2, z3⟩ := two_of ((b6.block _ (lt_of_block TC.out)).trans TC.out)))
              all_goals (try go_wp2_with fail)
              all_goals go_meet
              all_goals exact cut_3 TW.out hgl hwlo h6 ⟨b6.os, b6.tape, b6.output, b6.size, b6.block⟩
            case rest =>
              clear e0 e1 k0 k1 j0 j1 y0 y1 hn n1 n2 n2' TW HB1 TC HBC
              obtain ⟨gd, hgd, rfl, htwo⟩ := hcut
              obtain rfl : gc = gd := by simpa using hgd
              clear hgd hgc
              rw [show wo L x = M from HMM.out.symm] at htwo
              rw [show inB L x = ok from HK.out.symm]
              have TW := Lib.hid htwo
              obtain ⟨hn, hgc, rc, bb, ⟨vc, tc, hc1⟩, bc⟩ := htwo
              obtain ⟨Ac, cc, rfl⟩ := hc1.shape
              have ONE := Lib.hid (one_set rc bb bc hgl hwlo hc1)
              obtain ⟨vb, tb, hb1⟩ := bb
              obtain ⟨k0, k1, x0, x1⟩ := two_of tb
              obtain ⟨j0, j1, _, _⟩ := two_of tc
              have hn' := hn.symm
              clear rc tb tc hb1 hc1 bc
              obtain ⟨l, hl⟩ : ∃ l, l = lastI M := ⟨_, rfl⟩
              obtain ⟨s, hs⟩ : ∃ s, s = someB M := ⟨_, rfl⟩
              have HLL := Lib.hid hl
              have HSS := Lib.hid hs
              clear hl hs
              go_wp2_with fail
              obtain ⟨wd, hwd⟩ : ∃ wd, wd = (wc.setCell ⟨gb, 0, none⟩ (.slice Ac M.length cc)).setCell ⟨gb, 1, none⟩ (.int .i64 m) := ⟨_, rfl⟩
              rw [← hwd] at ONE ⊢
              clear hwd k0 k1 j0 j1 x0 x1
              with_reducible refine (last_rec ONE.out.rec_).mono ?_
              rintro e w8 ⟨rfl, q, rfl⟩
              rw [← HLL.out, ← HSS.out]
              obtain ⟨rd, ⟨vd, td, hd⟩, bd⟩ := ONE.out
              obtain ⟨Ad, cd, rfl⟩ := hd.shape
              have TD := Lib.hid (show (wd.drewN q).heap[gb]? = _ from td)
              have HD := Lib.hid (hd.drewN q)
              have RD := Lib.hid (rd.drewN q)
              have BD := Lib.hid (below_drewN bd q)
              obtain ⟨k0, k1, _, _⟩ := two_of td
              clear td hd rd bd
              go_wp2_with fail
              with_reducible refine (reflast HD.out m).mono ?_
              rintro e w9 ⟨rfl, b9⟩
              rw [← HLL.out, ← HSS.out]
              have R9 := Lib.hid (RD.out.below b9)
              have H9 := Lib.hid (HD.out.below b9)
              have T9 := Lib.hid ((b9.block _ (lt_of_block TD.out)).trans TD.out)
              have B9 := Lib.hid (BD.out.trans (b9.mono BD.out.size))
              clear b9 k0 k1
              have FR := Lib.hid (fun W (h : Below w9.heap.size w9 W) => R9.out.below h)
              have FH := Lib.hid (fun W (h : Below w9.heap.size w9 W) => H9.out.below h)
              have FC := Lib.hid (fun W (h : Below w9.heap.size w9 W) => two_of ((h.block _ (lt_of_block T9.out)).trans T9.out))
              have FX := Lib.hid (fun W (h : Below w9.heap.size w9 W) => D1.out W (B9.out.trans (h.mono B9.out.size)))
              have BW := Lib.hid (Below.refl w9.heap.size w9)
              obtain ⟨q0, q1, _, _⟩ := FC.out _ BW.out
              have q2 := FX.out _ BW.out
              have f1 : (ok != ok) = false := by simp
              have f2 : (l != l) = false := by simp
              have f3 : (s != s) = false := by simp
              have f4 : ((M.length : Int) != (M.length : Int)) = false := by simp
              have f5 : (pi != pi) = false := by simp
              have f6 : (px != px) = false := by simp
              go_wp2_with fail
              go_region_held3 (fun W => W.cell? ⟨gb, 0, none⟩ = some (.slice Ad M.length cd) ∧ W.cell? ⟨gb, 1, none⟩ = some (.int .i64 m) ∧ W.cell? ⟨b, off + k * 2 + 1, none⟩ = some (.int .i64 x)) (go_keep)
                ((first
                  | (go_at_call 18; (with_reducible refine (order_rec (FR.out _ ?_)).mono ?_); exact ⟨BW.out.os, BW.out.tape, BW.out.output, BW.out.size, BW.out.block⟩; rintro e w10 ⟨v10, rfl, h10, b10⟩; obtain ⟨A10, c10, rfl⟩ := h10.shape; have BT := Lib.hid (Below.refl w10.heap.size w10); have FT := Lib.hid (fun W (h : Below w10.heap.size w10 W) => h10.below h); have BW := Lib.hid (bw_step (by exact ⟨BW.out.os, BW.out.tape, BW.out.output, BW.out.size, BW.out.block⟩) b10); obtain ⟨q0, q1, _, _⟩ := FC.out _ BW.out; have q2 := FX.out _ BW.out; clear h10 b10)
                  | (go_at_call 17; (with_reducible refine (ints_eq (FT.out _ ?_) (FH.out _ ?_) EQM.out).mono ?_); exact ⟨BT.out.os, BT.out.tape, BT.out.output, BT.out.size, BT.out.block⟩; exact ⟨BW.out.os, BW.out.tape, BW.out.output, BW.out.size, BW.out.block⟩; rintro e w11 ⟨rfl, q11, rfl⟩)
                  | (go_at_call 31; (with_reducible refine (len_rec (FR.out _ ?_)).mono ?_); exact ⟨BW.out.os, BW.out.tape, BW.out.output, BW.out.size, BW.out.block⟩; rintro e w12 ⟨rfl, rfl⟩)
                  | (go_at_call 16; (with_reducible refine (has_eq (FR.out _ ?_) HPI.out).mono ?_); exact ⟨BW.out.os, BW.out.tape, BW.out.output, BW.out.size, BW.out.block⟩; rintro e w13 ⟨rfl, rfl⟩)
                  | (go_at_call 16; (with_reducible refine (has_eq (FR.out _ ?_) HPX.out).mono ?_); exact ⟨BW.out.os, BW.out.tape, BW.out.output, BW.out.size, BW.out.block⟩; rintro e w13 ⟨rfl, rfl⟩)
                  | (go_at_call 32; (with_reducible refine (refhas_eq (FH.out _ ?_) m HPI.out).mono ?_); exact ⟨BW.out.os, BW.out.tape, BW.out.output, BW.out.size, BW.out.block⟩; rintro e w14 ⟨rfl, b14⟩; have BW := Lib.hid (bw_step (by exact ⟨BW.out.os, BW.out.tape, BW.out.output, BW.out.size, BW.out.block⟩) b14); obtain ⟨q0, q1, _, _⟩ := FC.out _ BW.out; have q2 := FX.out _ BW.out; clear b14)
                  | (go_at_call 32; (with_reducible refine (refhas_eq (FH.out _ ?_) m HPX.out).mono ?_); exact ⟨BW.out.os, BW.out.tape, BW.out.output, BW.out.size, BW.out.block⟩; rintro e w14 ⟨rfl, b14⟩; have BW := Lib.hid (bw_step (by exact ⟨BW.out.os, BW.out.tape, BW.out.output, BW.out.size, BW.out.block⟩) b14); obtain ⟨q0, q1, _, _⟩ := FC.out _ BW.out; have q2 := FX.out _ BW.out; clear b14)))
              all_goals (try go_wp2_with fail)
              all_goals go_roundw
              all_goals first
                | (case measure => (simp [intOf]; omega))
                | skip
              all_goals first
                | exact pl_end hlt HX.out HL.out HMM.out R9.out T9.out H9.out B9.out hgl ⟨BW.out.os, BW.out.tape, BW.out.output, BW.out.size, BW.out.block⟩
                | ((repeat apply Exists.intro); exact ⟨pl_end hlt HX.out HL.out HMM.out R9.out T9.out H9.out B9.out hgl ⟨BW.out.os, BW.out.tape, BW.out.output, BW.out.size, BW.out.block⟩, rfl⟩)
                | (simp [intOf]; omega)
      · obtain rfl : k = Z.length := by omega
        rw [List.take_length] at r3 bx3
        obtain ⟨v3, t3, h3⟩ := bx3
        obtain ⟨A3, c3, rfl⟩ := h3.shape
        obtain ⟨k0, k1, _, _⟩ := two_of t3
        have R4 := Lib.hid r3
        have f4 : (((acts m Z).length : Int) == ((acts m Z).length : Int)) = true := by simp
        clear r3 b3 hle t3 h3 R3
        go_wp2_with fail
        go_quiet ((go_at_call 31; exact Calls.quiet_of_same ((len_rec (R4.out.drewN _)).mono (fun _ _ h => ⟨h.1, h.2.symm⟩))))
        go_wp2_with fail
        go_ret
        exact ⟨rfl, below_drewN B3.out nq⟩
  · go_wp2_with fail
    go_ret
    exact ⟨rfl, B1.out⟩

end Go.Proofs.Ytjcmbddiffebhaa
