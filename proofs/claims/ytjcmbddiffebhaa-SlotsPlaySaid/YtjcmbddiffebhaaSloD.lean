/-
  slots.New, and the places as an abstract state: what is in each, and which were given back.
-/
import Derived.Test.YtjcmbddiffebhaaSloC
namespace Go.Proofs.Ytjcmbddiffebhaa
open Go.RowKit

theorem smax2 (k k' : IntKind) (x y : Int) : Builtin.max2 (.int k x) (.int k' y) = pure (.int k (if x < y then y else x)) := by simp only [Builtin.max2, gt_iff_lt]
theorem smin2 (k k' : IntKind) (x y : Int) : Builtin.min2 (.int k x) (.int k' y) = pure (.int k (if y < x then y else x)) := by simp only [Builtin.min2]
theorem smax_2 (ats : Array TypeId) (ty : TypeId) (a b : Value) : Builtin.max_ ats ty #[a, b] = (Builtin.max2 a b >>= fun s => pure s) := by simp only [Builtin.max_, List.foldlM_cons, List.foldlM_nil]
theorem smin_2 (ats : Array TypeId) (ty : TypeId) (a b : Value) : Builtin.min_ ats ty #[a, b] = (Builtin.min2 a b >>= fun s => pure s) := by simp only [Builtin.min_, List.foldlM_cons, List.foldlM_nil]
attribute [local go_sem] smax2 smin2 smax_2 smin_2

/-- how many places there may be -/
def kap (most : Int) : Nat := (max 0 (min most 1024)).toNat
theorem kap_le (most : Int) : kap most ≤ 1024 := by unfold kap; omega
theorem kap_of (m : Nat) (h : m ≤ 1024) : kap m = m := by unfold kap; omega

set_option maxHeartbeats 400000 in
theorem snew_low (most : Int) (w : World) : Calls Try.prog 20 #[.int .i64 most] w fun e w' => e = .returned (.pointer (some ⟨w.heap.size, 0, none⟩)) ∧
    w' = w.alloc (.cells #[.slice none 0 0, .int .i64 (kap most), .int .i64 (-1), .int .i64 0] 72) := by
  obtain ⟨m, e0⟩ : ∃ m, kap most = m := ⟨_, rfl⟩
  rw [e0]
  obtain ⟨q, e1⟩ : ∃ q, (if 1024 < most then 1024 else most) = q := ⟨_, rfl⟩
  have e2 : (if 0 < q then q else 0) = (m : Int) := by unfold kap at e0; subst e1; split <;> split at * <;> omega
  clear e0
  go_enter Try.func20, Try.ntmps20
  go_wp2
  go_ret
  exact ⟨rfl, rfl⟩

/-! ### the abstract state -/
/-- what is in each place that ever had a thing; those that were given back, the last one first; how many there may be -/
structure St where
  T : List (Option Int)
  B : List Nat
  most : Nat

namespace St
def has (s : St) (i : Int) : Bool := decide (0 ≤ i) && (s.T.getD i.toNat none).isSome
def get (s : St) (i : Int) : Int := if 0 ≤ i then (s.T.getD i.toNat none).getD 0 else 0
def len (s : St) : Nat := s.T.length - s.B.length
def full (s : St) : Bool := decide (s.most ≤ s.len)
/-- where a thing is put -/
def spot (s : St) : Nat := match s.B with | [] => s.T.length | b :: _ => b
def take (s : St) (x : Int) : St := if s.full then s else match s.B with | [] => ⟨s.T ++ [some x], [], s.most⟩ | b :: r => ⟨s.T.set b (some x), r, s.most⟩
def give (s : St) (i : Int) : St := if s.has i then ⟨s.T.set i.toNat none, i.toNat :: s.B, s.most⟩ else s
def swap (s : St) (i x : Int) : St := if s.has i then ⟨s.T.set i.toNat (some x), s.B, s.most⟩ else s
def used (s : St) : List Int := ((List.range s.T.length).filter fun i => (s.T.getD i none).isSome).map Int.ofNat

/-- the free ones are just those that were given back, each once -/
structure Ok (s : St) : Prop where
  nd : s.B.Nodup
  fr : ∀ i, i ∈ s.B ↔ i < s.T.length ∧ s.T.getD i none = none
  le : s.T.length ≤ s.most
  cap : s.most ≤ 1024
end St

/-- the free one at place k of those that were given back, -1 behind the last -/
def nxt (B : List Nat) (k : Nat) : Int := match B[k]? with | some b => b | none => -1

/-- the places are the state's -/
def Fit (s : St) (P : List Pl) : Prop :=
  P.length = s.T.length ∧ (∀ i, i < s.T.length → (P.getD i z0).x = (s.T.getD i none).getD 0 ∧ (P.getD i z0).used = (s.T.getD i none).isSome) ∧
    ∀ k b, s.B[k]? = some b → (P.getD b z0).next = nxt s.B (k + 1)

def Slo (w : World) (p : Nat) (s : St) : Prop := ∃ v P, SLow w p v P s.most (nxt s.B 0) s.len ∧ Fit s P ∧ s.Ok

theorem nodup_le : ∀ (m : Nat) (L : List Nat), L.Nodup → (∀ x ∈ L, x < m) → L.length ≤ m
  | 0, L, _, g => by
    cases L with
    | nil => simp
    | cons x L => have := g x (by simp); omega
  | m + 1, L, nd, g => by
    by_cases h : m ∈ L
    · have h1 := List.length_erase_of_mem h
      have h2 := nodup_le m (L.erase m) (nd.erase _) (fun x hx => by
        have := (List.Nodup.mem_erase_iff nd).1 hx
        have := g x this.2
        omega)
      have h3 : 0 < L.length := List.length_pos_of_mem h
      omega
    · have := nodup_le m L nd (fun x hx => by
        have := g x hx
        have : x ≠ m := fun e => h (e ▸ hx)
        omega)
      omega

theorem getD_set {α : Type} (L : List α) (k i : Nat) (a d : α) (hk : k < L.length) : (L.set k a).getD i d = if i = k then a else L.getD i d := by
  rw [List.getD_eq_getElem?_getD, List.getD_eq_getElem?_getD]
  by_cases h : i = k
  · subst h; rw [List.getElem?_set_self hk, if_pos rfl]; rfl
  · rw [List.getElem?_set_ne (fun e => h e.symm), if_neg h]

theorem getD_snoc {α : Type} (L : List α) (i : Nat) (a d : α) : (L ++ [a]).getD i d = if i = L.length then a else L.getD i d := by
  rw [List.getD_eq_getElem?_getD, List.getD_eq_getElem?_getD]
  by_cases h : i = L.length
  · subst h; simp
  · rw [if_neg h]
    by_cases h1 : i < L.length
    · rw [List.getElem?_append_left h1]
    · rw [List.getElem?_eq_none (by simp; omega), List.getElem?_eq_none (by omega)]

namespace St
variable {s : St}
theorem Ok.blen (h : s.Ok) : s.B.length ≤ s.T.length := nodup_le _ _ h.nd (fun x hx => ((h.fr x).1 hx).1)

theorem has_lt {i : Int} (h : s.has i = true) : 0 ≤ i ∧ i.toNat < s.T.length ∧ (s.T.getD i.toNat none).isSome = true := by
  simp only [has, Bool.and_eq_true, decide_eq_true_eq] at h
  refine ⟨h.1, ?_, h.2⟩
  rcases Nat.lt_or_ge i.toNat s.T.length with h' | h'
  · exact h'
  · have := h.2
    rw [List.getD_eq_getElem?_getD, List.getElem?_eq_none h'] at this
    simp at this

theorem Ok.not_back (h : s.Ok) {i : Int} (hh : s.has i = true) : i.toNat ∉ s.B := fun hb => by
  have h1 := (has_lt hh).2.2
  rw [((h.fr _).1 hb).2] at h1
  simp at h1

theorem Ok.give_len (h : s.Ok) {i : Int} (hh : s.has i = true) : s.B.length + 1 ≤ s.T.length := by
  have := nodup_le s.T.length (i.toNat :: s.B) (List.nodup_cons.2 ⟨h.not_back hh, h.nd⟩) (fun x hx => by
    rcases List.mem_cons.1 hx with rfl | hx
    · exact (has_lt hh).2.1
    · exact ((h.fr x).1 hx).1)
  simpa using this

theorem Ok.take (h : s.Ok) (x : Int) : (s.take x).Ok := by
  unfold St.take
  split
  · exact h
  · rename_i hf
    have hf' : s.len < s.most := by simpa [St.full] using hf
    split
    · rename_i hb
      refine ⟨List.nodup_nil, fun i => ⟨fun hi => by simp at hi, fun ⟨h1, h2⟩ => ?_⟩, ?_, h.cap⟩
      · rw [getD_snoc] at h2
        split at h2
        · simp at h2
        · have := (h.fr i).2 ⟨by simp at h1; omega, h2⟩
          rw [hb] at this; exact this
      have h0 : s.B.length = 0 := by rw [hb]; rfl
      unfold St.len at hf'
      simp
      omega
    · rename_i b r hb
      have hbm : b ∈ s.B := by rw [hb]; simp
      have hlt := ((h.fr b).1 hbm).1
      have hnd := h.nd
      rw [hb, List.nodup_cons] at hnd
      refine ⟨hnd.2, fun i => ?_, by simpa using h.le, h.cap⟩
      rw [List.length_set, getD_set _ _ _ _ _ hlt]
      by_cases e : i = b
      · subst e
        rw [if_pos rfl]
        exact ⟨fun hi => absurd hi hnd.1, fun h' => by simp at h'⟩
      · rw [if_neg e, ← h.fr i, hb, List.mem_cons]
        exact ⟨fun hi => .inr hi, fun hi => hi.elim (fun h' => absurd h' e) id⟩

theorem Ok.give (h : s.Ok) (i : Int) : (s.give i).Ok := by
  unfold St.give
  split
  · rename_i hh
    obtain ⟨_, hlt, _⟩ := has_lt hh
    refine ⟨List.nodup_cons.2 ⟨h.not_back hh, h.nd⟩, fun j => ?_, by simpa using h.le, h.cap⟩
    rw [List.length_set, getD_set _ _ _ _ _ hlt, List.mem_cons]
    by_cases e : j = i.toNat
    · rw [if_pos e]; exact ⟨fun _ => ⟨by omega, rfl⟩, fun _ => .inl e⟩
    · rw [if_neg e, ← h.fr j]
      exact ⟨fun hi => hi.elim (fun h' => absurd h' e) id, fun hi => .inr hi⟩
  · exact h

theorem Ok.swap (h : s.Ok) (i x : Int) : (s.swap i x).Ok := by
  unfold St.swap
  split
  · rename_i hh
    obtain ⟨_, hlt, hs⟩ := has_lt hh
    refine ⟨h.nd, fun j => ?_, by simpa using h.le, h.cap⟩
    rw [List.length_set, getD_set _ _ _ _ _ hlt]
    by_cases e : j = i.toNat
    · rw [if_pos e]
      exact ⟨fun hj => absurd (e ▸ hj) (h.not_back hh), fun h' => by simp at h'⟩
    · rw [if_neg e]; exact h.fr j
  · exact h

theorem ok_new (m : Nat) (hm : m ≤ 1024) : St.Ok ⟨[], [], m⟩ := ⟨List.nodup_nil, fun i => by simp, by simp, hm⟩
end St

theorem fit_snoc {s : St} {P : List Pl} (h : Fit s P) (x : Int) : Fit ⟨s.T ++ [some x], [], s.most⟩ (P ++ [⟨x, true, 0⟩]) := by
  obtain ⟨h1, h2, h3⟩ := h
  refine ⟨by simp [h1], fun i hi => ?_, fun k b hk => by simp at hk⟩
  rw [getD_snoc, getD_snoc, h1]
  split
  · exact ⟨rfl, rfl⟩
  · exact h2 i (by simp at hi; omega)

theorem fit_reuse {s : St} {P : List Pl} (h : Fit s P) (ok : s.Ok) {b : Nat} {r : List Nat} (hb : s.B = b :: r) (x : Int) : Fit ⟨s.T.set b (some x), r, s.most⟩ (P.set b ⟨x, true, 0⟩) := by
  obtain ⟨h1, h2, h3⟩ := h
  have hlt : b < s.T.length := ((ok.fr b).1 (by rw [hb]; simp)).1
  have hnd := ok.nd
  rw [hb, List.nodup_cons] at hnd
  refine ⟨by simp [h1], fun i hi => ?_, fun k c hk => ?_⟩
  · rw [getD_set _ _ _ _ _ hlt, getD_set _ _ _ _ _ (by omega)]
    split
    · exact ⟨rfl, rfl⟩
    · exact h2 i (by simpa using hi)
  · have hc : c ≠ b := fun e => hnd.1 (e ▸ List.mem_of_getElem? hk)
    rw [getD_set _ _ _ _ _ (by omega), if_neg hc]
    have hk' : r[k]? = some c := hk
    have := h3 (k + 1) c (by rw [hb]; exact hk')
    rw [this, hb]; rfl

theorem fit_give {s : St} {P : List Pl} (h : Fit s P) (ok : s.Ok) {i : Int} (hh : s.has i = true) : Fit ⟨s.T.set i.toNat none, i.toNat :: s.B, s.most⟩ (P.set i.toNat ⟨0, false, nxt s.B 0⟩) := by
  obtain ⟨h1, h2, h3⟩ := h
  obtain ⟨_, hlt, _⟩ := St.has_lt hh
  refine ⟨by simp [h1], fun j hj => ?_, fun k c hk => ?_⟩
  · rw [getD_set _ _ _ _ _ hlt, getD_set _ _ _ _ _ (by omega)]
    split
    · exact ⟨rfl, rfl⟩
    · exact h2 j (by simpa using hj)
  · rw [getD_set _ _ _ _ _ (by omega)]
    cases k with
    | zero =>
      have : i.toNat = c := by simpa using hk
      rw [if_pos this.symm]; rfl
    | succ k =>
      have hk' : s.B[k]? = some c := by simpa using hk
      have hc : c ≠ i.toNat := fun e => ok.not_back hh (e ▸ List.mem_of_getElem? hk')
      rw [if_neg hc, h3 k c hk']; rfl

theorem fit_swap {s : St} {P : List Pl} (h : Fit s P) {i : Int} (hh : s.has i = true) (x : Int) :
    Fit ⟨s.T.set i.toNat (some x), s.B, s.most⟩ (P.set i.toNat ⟨x, (P.getD i.toNat z0).used, (P.getD i.toNat z0).next⟩) := by
  obtain ⟨h1, h2, h3⟩ := h
  obtain ⟨_, hlt, hs⟩ := St.has_lt hh
  refine ⟨by simp [h1], fun j hj => ?_, fun k c hk => ?_⟩
  · rw [getD_set _ _ _ _ _ hlt, getD_set _ _ _ _ _ (by omega)]
    split
    · exact ⟨rfl, by rw [(h2 _ hlt).2, hs]; rfl⟩
    · exact h2 j (by simpa using hj)
  · rw [getD_set _ _ _ _ _ (by omega)]
    split
    · rename_i e; rw [← e]; exact h3 k c hk
    · exact h3 k c hk

theorem fit_used {s : St} {P : List Pl} (h : Fit s P) : usedI P P.length = s.used := by
  obtain ⟨h1, h2, h3⟩ := h
  unfold usedI St.used
  rw [h1]
  congr 1
  refine List.filter_congr fun i hi => ?_
  exact (h2 i (by simpa using hi)).2

end Go.Proofs.Ytjcmbddiffebhaa
