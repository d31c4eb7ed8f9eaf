/-
  The methods of slots.Slots[int] said of cells: what each call does to the places, the free one and the count.
-/
import Derived.Test.YtjcmbddiffebhaaOnly
import Derived.WalkLawsBesides
import Derived.RegionTactic
import Derived.Deep.QuietTactic
import Derived.BigQuiet
import Derived.Lib.Hide
import Derived.Laws.OwnMore
import Derived.KernelRfl
namespace Go.Proofs.Ytjcmbddiffebhaa
open Go.RowKit

/-- a place: what is in it, whether it is used, the next free one -/
structure Pl where
  x : Int
  used : Bool
  next : Int

def pc (P : List Pl) : List Value := P.flatMap fun q => [.int .i64 q.x, .bool q.used, .int .i64 q.next]
def z0 : Pl := ⟨0, false, 0⟩

theorem pc_length (P : List Pl) : (pc P).length = P.length * 3 := by
  induction P with
  | nil => rfl
  | cons q P ih =>
    show (_ :: _ :: _ :: pc P).length = _
    simp only [List.length_cons, ih]; omega
theorem pc_snoc (P : List Pl) (q : Pl) : pc (P ++ [q]) = pc P ++ [.int .i64 q.x, .bool q.used, .int .i64 q.next] := by simp [pc]
theorem pc_get (P : List Pl) (k : Nat) (h : k < P.length) :
    (pc P)[k * 3]? = some (.int .i64 (P.getD k z0).x) ∧ (pc P)[k * 3 + 1]? = some (.bool (P.getD k z0).used) ∧ (pc P)[k * 3 + 2]? = some (.int .i64 (P.getD k z0).next) := by
  induction P generalizing k with
  | nil => simp at h
  | cons q P ih =>
    cases k with
    | zero => exact ⟨rfl, rfl, rfl⟩
    | succ k =>
      have := ih k (by simpa using h)
      rw [show (k + 1) * 3 = k * 3 + 3 by omega]
      exact this
theorem pc_set (P : List Pl) (k : Nat) (q : Pl) : ((((pc P).set (k * 3) (.int .i64 q.x)).set (k * 3 + 1) (.bool q.used)).set (k * 3 + 2) (.int .i64 q.next)) = pc (P.set k q) := by
  induction P generalizing k with
  | nil => simp [pc]
  | cons r P ih =>
    cases k with
    | zero => rfl
    | succ k =>
      have := ih k
      rw [show (k + 1) * 3 = k * 3 + 3 by omega]
      show (_ :: _ :: _ :: _) = (_ :: _ :: _ :: pc (P.set k q))
      rw [← this]
      rfl
theorem pc_setx (P : List Pl) (k : Nat) (x : Int) (h : k < P.length) : (pc P).set (k * 3) (.int .i64 x) = pc (P.set k ⟨x, (P.getD k z0).used, (P.getD k z0).next⟩) := by
  induction P generalizing k with
  | nil => simp at h
  | cons r P ih =>
    cases k with
    | zero => rfl
    | succ k =>
      have := ih k (by simpa using h)
      rw [show (k + 1) * 3 = k * 3 + 3 by omega]
      show (_ :: _ :: _ :: _) = (_ :: _ :: _ :: pc (P.set k _))
      rw [List.getD_cons_succ, ← this]
      rfl

/-- the Slots at block p: its places lie where v leads to -/
structure SLow (w : World) (p : Nat) (v : Value) (P : List Pl) (most : Nat) (free n : Int) : Prop where
  hm : most ≤ 1024
  hl : P.length ≤ most
  blk : w.heap[p]? = some (.cells #[v, .int .i64 most, .int .i64 free, .int .i64 n] 72 (0, 0))
  own : w.ownsRow (p + 1) 78 3 v P.length (pc P)

def Foot (p : Nat) (v : Value) : Nat → Prop := fun k => k = p ∨ v.ownBlock = some k

section
variable {w w' : World} {p most : Nat} {v : Value} {P : List Pl} {free n : Int}

theorem SLow.only {S : Nat → Prop} (h : SLow w p v P most free n) (ho : Only S w w') (hs : ∀ k, Foot p v k → ¬ S k) : SLow w' p v P most free n :=
  ⟨h.hm, h.hl, (ho.block p (lt_of_block h.blk) (hs p (.inl rfl))).trans h.blk, ho.owns h.own (fun k hk => hs k (.inr hk))⟩
theorem SLow.below (h : SLow w p v P most free n) (hb : Below w.heap.size w w') : SLow w' p v P most free n := h.only (S := fun _ => False) (Only.ofBelow hb) (fun _ _ h => h)
theorem SLow.drew (h : SLow w p v P most free n) : SLow w.drew p v P most free n := ⟨h.hm, h.hl, h.blk, h.own⟩
theorem SLow.drewN (h : SLow w p v P most free n) (k : Nat) : SLow (w.drewN k) p v P most free n := ⟨h.hm, h.hl, h.blk, h.own⟩

theorem SLow.shape (h : SLow w p v P most free n) : ∃ A c, v = .slice A P.length c := by
  rcases h.own.2 with ⟨rfl, h0⟩ | ⟨g, cap, cur, rfl, _⟩
  · exact ⟨none, 0, by rw [h0]⟩
  · exact ⟨_, _, rfl⟩
theorem SLow.c0 (h : SLow w p v P most free n) : w.cell? ⟨p, 0, none⟩ = some v := by simp [World.cell?, h.blk]
theorem SLow.c1 (h : SLow w p v P most free n) : w.cell? ⟨p, 1, none⟩ = some (.int .i64 most) := by simp [World.cell?, h.blk]
theorem SLow.c2 (h : SLow w p v P most free n) : w.cell? ⟨p, 2, none⟩ = some (.int .i64 free) := by simp [World.cell?, h.blk]
theorem SLow.c3 (h : SLow w p v P most free n) : w.cell? ⟨p, 3, none⟩ = some (.int .i64 n) := by simp [World.cell?, h.blk]
theorem SLow.fz (h : SLow w p v P most free n) (o : Nat) : w.frozen? ⟨p, o, none⟩ = false := by simp [World.frozen?, h.blk]

/-- the cells of a place -/
theorem SLow.at_ (h : SLow w p v P most free n) {A : Option Addr} {c m : Nat} (hv : v = .slice A m c) (k : Nat) (hk : k < P.length) :
    ∃ g, A = some ⟨g, 0, none⟩ ∧ p < g ∧ v.ownBlock = some g ∧ w.cell? ⟨g, k * 3, none⟩ = some (.int .i64 (P.getD k z0).x) ∧ w.cell? ⟨g, k * 3 + 1, none⟩ = some (.bool (P.getD k z0).used) ∧
      w.cell? ⟨g, k * 3 + 2, none⟩ = some (.int .i64 (P.getD k z0).next) ∧ ∀ o, w.frozen? ⟨g, o, none⟩ = false := by
  subst hv
  have ho := h.own
  rcases ho.2 with ⟨_, h0⟩ | ⟨g, cap, cur, hv', hb, hh, r⟩
  · omega
  · injection hv' with e1 e2 e3
    subst e1; subst e2; subst e3
    obtain ⟨p0, p1, p2⟩ := pc_get P k hk
    refine ⟨g, rfl, by omega, rfl, ?_, ?_, ?_, fun o => World.ownsRow.frozenAt ho o⟩
    · rw [World.ownsRow.cellAt ho _ (by omega)]; exact p0
    · rw [World.ownsRow.cellAt ho _ (by omega)]; exact p1
    · rw [World.ownsRow.cellAt ho _ (by omega)]; exact p2

theorem heap_set4 {b : Nat} {c0 c1 c2 c3 : Value} {t : TypeId} (h : w.heap[b]? = some (.cells #[c0, c1, c2, c3] t (0, 0))) (o : Nat) (u : Value) :
    (w.setCell ⟨b, o, none⟩ u).heap[b]? = some (.cells (#[c0, c1, c2, c3].setIfInBounds o u) t (0, 0)) := heap_setCell_same w b o _ t u h

theorem SLow.setFree (h : SLow w p v P most free n) (f : Int) : SLow (w.setCell ⟨p, 2, none⟩ (.int .i64 f)) p v P most f n := by
  refine ⟨h.hm, h.hl, by rw [heap_set4 h.blk]; rfl, ?_⟩
  exact ((Only.refl (fun k => k = p) w).setCell (.inl rfl) _).owns h.own (fun k hk e => by have := (World.ownsRow.lt h.own k hk).1; omega)
theorem SLow.setN (h : SLow w p v P most free n) (f : Int) : SLow (w.setCell ⟨p, 3, none⟩ (.int .i64 f)) p v P most free f := by
  refine ⟨h.hm, h.hl, by rw [heap_set4 h.blk]; rfl, ?_⟩
  exact ((Only.refl (fun k => k = p) w).setCell (.inl rfl) _).owns h.own (fun k hk e => by have := (World.ownsRow.lt h.own k hk).1; omega)
theorem SLow.setRow {g c m : Nat} (h : SLow w p (.slice (some ⟨g, 0, none⟩) m c) P most free n) (k : Nat) (q : Pl) :
    SLow (((w.setCell ⟨g, k * 3, none⟩ (.int .i64 q.x)).setCell ⟨g, k * 3 + 1, none⟩ (.bool q.used)).setCell ⟨g, k * 3 + 2, none⟩ (.int .i64 q.next)) p (.slice (some ⟨g, 0, none⟩) m c) (P.set k q) most free n := by
  have hpg : p < g := by have := (World.ownsRow.lt h.own g rfl).1; omega
  obtain ⟨A, c', hv⟩ := h.shape
  injection hv with _ hm _
  have ho : w.ownsRow (p + 1) 78 3 (.slice (some ⟨g, 0, none⟩) m c) m (pc P) := by have := h.own; rwa [← hm] at this
  have h1 := (World.ownsRow.stored ho (k * 3) (.int .i64 q.x)).1
  have h2 := (World.ownsRow.stored h1 (k * 3 + 1) (.bool q.used)).1
  have h3 := (World.ownsRow.stored h2 (k * 3 + 2) (.int .i64 q.next)).1
  rw [pc_set] at h3
  refine ⟨h.hm, by simpa using h.hl, ?_, by rw [List.length_set, ← hm]; exact h3⟩
  rw [Below.heap_setCell _ _ _ _ (by simp; omega), Below.heap_setCell _ _ _ _ (by simp; omega), Below.heap_setCell _ _ _ _ (by simp; omega)]
  exact h.blk
theorem SLow.setX {g c m : Nat} (h : SLow w p (.slice (some ⟨g, 0, none⟩) m c) P most free n) (k : Nat) (hk : k < P.length) (x : Int) :
    SLow (w.setCell ⟨g, k * 3, none⟩ (.int .i64 x)) p (.slice (some ⟨g, 0, none⟩) m c) (P.set k ⟨x, (P.getD k z0).used, (P.getD k z0).next⟩) most free n := by
  have hpg : p < g := by have := (World.ownsRow.lt h.own g rfl).1; omega
  obtain ⟨A, c', hv⟩ := h.shape
  injection hv with _ hm _
  have ho : w.ownsRow (p + 1) 78 3 (.slice (some ⟨g, 0, none⟩) m c) m (pc P) := by have := h.own; rwa [← hm] at this
  have h1 := (World.ownsRow.stored ho (k * 3) (.int .i64 x)).1
  rw [pc_setx P k x hk] at h1
  refine ⟨h.hm, by simpa using h.hl, ?_, by rw [List.length_set, ← hm]; exact h1⟩
  rw [Below.heap_setCell _ _ _ _ (by simp; omega)]
  exact h.blk
theorem SLow.setL (h : SLow w p v P most free n) {v1 : Value} {P1 : List Pl} (hl : P1.length ≤ most) (hp : w'.heap[p]? = w.heap[p]?) (ho : w'.ownsRow (p + 1) 78 3 v1 P1.length (pc P1)) :
    SLow (w'.setCell ⟨p, 0, none⟩ v1) p v1 P1 most free n := by
  refine ⟨h.hm, hl, by rw [heap_set4 (hp.trans h.blk)]; rfl, ?_⟩
  exact ((Only.refl (fun k => k = p) w').setCell (.inl rfl) _).owns ho (fun k hk e => by have := (World.ownsRow.lt ho k hk).1; omega)
end

/-! ### the small methods -/
set_option maxHeartbeats 400000 in
theorem slen_nil (w : World) : Calls Try.prog 24 #[.pointer none] w fun e w' => e = .returned (.int .i64 0) ∧ w = w' := by
  go_enter Try.func24, Try.ntmps24
  go_wp2
  go_ret
  exact ⟨rfl, rfl⟩
set_option maxHeartbeats 400000 in
theorem slen_any (p : Nat) (n : Int) (w : World) (c3 : w.cell? ⟨p, 3, none⟩ = some (.int .i64 n)) : Calls Try.prog 24 #[.pointer (some ⟨p, 0, none⟩)] w fun e w' => e = .returned (.int .i64 n) ∧ w = w' := by
  go_enter Try.func24, Try.ntmps24
  go_wp2
  go_ret
  exact ⟨rfl, rfl⟩
set_option maxHeartbeats 400000 in
theorem scap_nil (w : World) : Calls Try.prog 41 #[.pointer none] w fun e w' => e = .returned (.int .i64 0) ∧ w = w' := by
  go_enter Try.func41, Try.ntmps41
  go_wp2
  go_ret
  exact ⟨rfl, rfl⟩
set_option maxHeartbeats 400000 in
theorem scap_any (p : Nat) (n : Int) (w : World) (c1 : w.cell? ⟨p, 1, none⟩ = some (.int .i64 n)) : Calls Try.prog 41 #[.pointer (some ⟨p, 0, none⟩)] w fun e w' => e = .returned (.int .i64 n) ∧ w = w' := by
  go_enter Try.func41, Try.ntmps41
  go_wp2
  go_ret
  exact ⟨rfl, rfl⟩
set_option maxHeartbeats 400000 in
theorem spot_nil (i : Int) (w : World) : Calls Try.prog 46 #[.pointer none, .int .i64 i] w fun e w' => e = .returned (.pointer none) ∧ w = w' := by
  go_enter Try.func46, Try.ntmps46
  go_wp2
  go_ret
  exact ⟨rfl, rfl⟩
set_option maxHeartbeats 400000 in
theorem spot_out (p m c : Nat) (A : Option Addr) (i : Int) (w : World) (hm : m ≤ 1024) (hi : i < 0 ∨ (m : Int) ≤ i) (c0 : w.cell? ⟨p, 0, none⟩ = some (.slice A m c)) :
    Calls Try.prog 46 #[.pointer (some ⟨p, 0, none⟩), .int .i64 i] w fun e w' => e = .returned (.pointer none) ∧ w = w' := by
  rcases hi with hi | hi
  all_goals
    go_enter Try.func46, Try.ntmps46
    go_wp2
    all_goals go_ret
    all_goals exact ⟨rfl, rfl⟩
set_option maxHeartbeats 400000 in
theorem spot_free (p m c g k : Nat) (w : World) (_hm : m ≤ 1024) (hk : k < m) (c0 : w.cell? ⟨p, 0, none⟩ = some (.slice (some ⟨g, 0, none⟩) m c)) (hu : w.cell? ⟨g, k * 3 + 1, none⟩ = some (.bool false)) :
    Calls Try.prog 46 #[.pointer (some ⟨p, 0, none⟩), .int .i64 k] w fun e w' => e = .returned (.pointer none) ∧ w = w' := by
  have b1 : (0 : Int) ≤ (k : Int) := by omega
  have b2 : (k : Int) < (m : Int) := by omega
  go_enter Try.func46, Try.ntmps46
  go_wp2
  go_ret
  exact ⟨rfl, rfl⟩
set_option maxHeartbeats 400000 in
theorem spot_yes (p m c g k : Nat) (w : World) (_hm : m ≤ 1024) (hk : k < m) (c0 : w.cell? ⟨p, 0, none⟩ = some (.slice (some ⟨g, 0, none⟩) m c)) (hu : w.cell? ⟨g, k * 3 + 1, none⟩ = some (.bool true)) :
    Calls Try.prog 46 #[.pointer (some ⟨p, 0, none⟩), .int .i64 k] w fun e w' => e = .returned (.pointer (some ⟨g, k * 3, none⟩)) ∧ w = w' := by
  have b1 : (0 : Int) ≤ (k : Int) := by omega
  have b2 : (k : Int) < (m : Int) := by omega
  go_enter Try.func46, Try.ntmps46
  go_wp2
  go_ret
  exact ⟨rfl, rfl⟩

end Go.Proofs.Ytjcmbddiffebhaa
