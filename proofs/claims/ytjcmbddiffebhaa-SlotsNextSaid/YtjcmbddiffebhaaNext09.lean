/-
  SlotsNext's walk: what is given back is taken next.
-/
import Derived.Test.YtjcmbddiffebhaaSloE
import Derived.Test.YtjcmbddiffebhaaArgs
import Derived.Deep.LoopGhost
namespace Go.Proofs.Ytjcmbddiffebhaa
open Go.RowKit

theorem and_to (x : Int) (b : Nat) (hb : b < 1000000) : ∃ n : Nat, bits .and .i64 x b = n ∧ n ≤ b := by
  obtain ⟨n0, n1⟩ := and_le x b hb
  obtain ⟨n, hn⟩ := Int.eq_ofNat_of_zero_le n0
  exact ⟨n, hn, by rw [hn] at n1; omega⟩
theorem and_63 (x : Int) : ∃ n : Nat, bits .and .i64 x 63 = n ∧ n ≤ 63 := and_to x 63 (by decide)
theorem and_65535 (x : Int) : ∃ n : Nat, bits .and .i64 x 65535 = n ∧ n ≤ 65535 := and_to x 65535 (by decide)

/-- the first j places filled, one behind the other -/
def seqS (m j : Nat) : St := ⟨(List.range j).map fun i : Nat => some (i : Int), [], m⟩
theorem seqS_len (m j : Nat) : (seqS m j).len = j := by simp [seqS, St.len]
theorem seqS_full {m j : Nat} (h : j < m) : (seqS m j).full = false := by
  have := seqS_len m j
  unfold St.full
  rw [this]
  have e : (seqS m j).most = m := rfl
  rw [e]
  simp; omega
theorem seqS_take {m j : Nat} (h : j < m) : (seqS m j).take j = seqS m (j + 1) ∧ takeI (seqS m j) = j := by
  have hf := seqS_full h
  constructor
  · unfold St.take
    rw [hf]
    simp [seqS, List.range_succ]
  · unfold takeI
    rw [hf]
    simp [seqS, St.spot]

/-- all places that are there have a thing -/
def Packed (s : St) (m c : Nat) : Prop := s.B = [] ∧ s.most = m ∧ s.T.length = c
theorem Packed.len {s : St} {m c : Nat} (h : Packed s m c) : s.len = c := by unfold St.len; rw [h.1, h.2.2]; simp
theorem Packed.full {s : St} {m c : Nat} (h : Packed s m c) : s.full = decide (m ≤ c) := by unfold St.full; rw [h.len, h.2.1]
theorem Packed.take {s : St} {m c : Nat} (h : Packed s m c) (hc : c < m) (x : Int) : Packed (s.take x) m (c + 1) := by
  have hf : s.full = false := by rw [h.full]; simpa using hc
  unfold St.take
  rw [hf]
  simp only [Bool.false_eq_true, if_false]
  rw [h.1]
  exact ⟨rfl, h.2.1, by simp [h.2.2]⟩
theorem Packed.used {s : St} {m c : Nat} (h : Packed s m c) (ok : s.Ok) : s.used.length = c := by
  unfold St.used
  rw [List.length_map, List.filter_eq_self.2, List.length_range, h.2.2]
  intro i hi
  have hi' : i < s.T.length := by simpa using hi
  cases hx : s.T.getD i none with
  | some y => rfl
  | none =>
    have := (ok.fr i).2 ⟨hi', hx⟩
    rw [h.1] at this; simp at this

/-- given back and taken: the same place -/
theorem seqS_again {m k a : Nat} (hk : k ≤ m) (ha : a < k) : (seqS m k).has a = true ∧ ((seqS m k).give a).full = false ∧ takeI ((seqS m k).give a) = a ∧
    (((seqS m k).give a).take 99).has a = true ∧ (((seqS m k).give a).take 99).get a = 99 ∧ Packed (((seqS m k).give a).take 99) m k := by
  have h1 : (seqS m k).has a = true := by
    have e : ((seqS m k).T.getD a none) = some (a : Int) := by simp [seqS, List.getD_eq_getElem?_getD, ha]
    unfold St.has
    rw [show ((a : Int)).toNat = a by omega, e]
    simp
  have h2 : (seqS m k).give a = ⟨(seqS m k).T.set a none, [a], m⟩ := by
    unfold St.give
    rw [if_pos h1, show ((a : Int)).toNat = a by omega]
    rfl
  have hlen : (seqS m k).T.length = k := by simp [seqS]
  have h3 : ((seqS m k).give a).full = false := by
    rw [h2]
    simp only [St.full, St.len, List.length_set, hlen, List.length_singleton, decide_eq_false_iff_not]
    omega
  have h4 : ((seqS m k).give a).take 99 = ⟨((seqS m k).T.set a none).set a (some 99), [], m⟩ := by
    have := h3
    rw [h2] at this ⊢
    unfold St.take
    rw [this]
    rfl
  have h5 : (((seqS m k).T.set a none).set a (some (99 : Int))).getD a none = some 99 := by rw [getD_set _ _ _ _ _ (by simp [hlen]; omega), if_pos rfl]
  refine ⟨h1, h3, ?_, ?_, ?_, ?_⟩
  · unfold takeI
    rw [h3, h2]
    rfl
  · rw [h4]
    unfold St.has
    rw [show ((a : Int)).toNat = a by omega]
    show (decide (0 ≤ (a : Int)) && ((((seqS m k).T.set a none).set a (some (99 : Int))).getD a none).isSome) = true
    rw [h5]; simp
  · rw [h4]
    unfold St.get
    rw [if_pos (by omega), show ((a : Int)).toNat = a by omega]
    show ((((seqS m k).T.set a none).set a (some (99 : Int))).getD a none).getD 0 = 99
    rw [h5]; rfl
  · rw [h4]
    exact ⟨rfl, rfl, by simp [hlen]⟩

def XL1 (w : World) (p m : Nat) (k : Nat) (i : Value) (wr : World) : Prop :=
  ∃ j : Nat, j ≤ k ∧ i = .int .i64 j ∧ Slo wr p (seqS m j) ∧ Below w.heap.size w wr
def XL2 (w : World) (p m : Nat) (wr : World) (s : St) (c : Nat) : Prop := c ≤ m ∧ Slo wr p s ∧ Packed s m c ∧ Below w.heap.size w wr

set_option maxHeartbeats 2000000 in
set_option maxRecDepth 100000 in
theorem next09_walk (most n i : Int) (w : World) : Calls Try.prog 9 #[.int .i64 most, .int .i64 n, .int .i64 i] w (TrueNewS w) := by
  obtain ⟨a, ha, ha63⟩ := and_63 most
  obtain ⟨b, hb, hb6⟩ := and_65535 n
  obtain ⟨c, hc, hc6⟩ := and_65535 i
  obtain ⟨m, hm⟩ : ∃ m : Nat, 1 + (a : Int) = m := ⟨1 + a, by omega⟩
  have hm1 : 1 ≤ m := by omega
  have hm64 : m ≤ 64 := by omega
  have r1 : (0 : Int) ≤ (b : Int) % (m : Int) := Int.emod_nonneg _ (by omega)
  have r2 : (b : Int) % (m : Int) < m := Int.emod_lt_of_pos _ (by omega)
  obtain ⟨k, hk⟩ : ∃ k : Nat, 1 + (b : Int) % (m : Int) = k := ⟨(1 + (b : Int) % (m : Int)).toNat, by omega⟩
  have hk1 : 1 ≤ k := by omega
  have hkm : k ≤ m := by omega
  have q1 : (0 : Int) ≤ (c : Int) % (k : Int) := Int.emod_nonneg _ (by omega)
  have q2 : (c : Int) % (k : Int) < k := Int.emod_lt_of_pos _ (by omega)
  obtain ⟨at_, hat⟩ : ∃ at_ : Nat, (c : Int) % (k : Int) = at_ := ⟨((c : Int) % (k : Int)).toNat, by omega⟩
  have hatk : at_ < k := by omega
  go_enter Try.func9, Try.ntmps9
  go_wp2_with fail
  with_reducible refine (awake09 w).mono ?_
  rintro e w1 ⟨rfl, b1⟩
  have B1 := Lib.hid b1
  clear b1
  go_wp2_with fail
  with_reducible refine (new_slo (m : Int)).mono ?_
  rintro e w2 ⟨rfl, s2, b2⟩
  rw [kap_of m (by omega)] at s2
  obtain ⟨p, hp⟩ : ∃ p, p = w1.heap.size := ⟨_, rfl⟩
  have hwp : w.heap.size ≤ p := by rw [hp]; exact B1.out.size
  have B2 := Lib.hid (B1.out.trans (b2.mono B1.out.size))
  rw [← hp] at s2 ⊢
  have S2 := Lib.hid s2
  clear s2 b2 hp
  go_wp2_with fail
  have HK := Lib.hid hk
  clear hk r1 r2
  go_loopw [11] (fun i wr => XL1 w p m k i wr) (fun i _ => k - (intOf i).toNat)
  case atStart => exact ⟨0, by omega, rfl, S2.out, B2.out⟩
  case round =>
    obtain ⟨j, hj, rfl, s3, b3⟩ := hrel
    have S3 := Lib.hid s3
    have B3 := Lib.hid b3
    clear s3 b3
    by_cases hlt : j < k
    · obtain ⟨e1, e2⟩ := seqS_take (m := m) (j := j) (by omega)
      have e3 := seqS_full (m := m) (j := j) (by omega)
      have E1 := Lib.hid e1
      have E2 := Lib.hid e2
      have E3 := Lib.hid e3
      clear e1 e2 e3
      have hjj : ((j : Int) != (j : Int)) = false := by simp
      go_wp2_with fail
      with_reducible refine (take_slo S3.out (j : Int)).mono ?_
      rintro e w4 ⟨rfl, s4, k4⟩
      rw [E1.out] at s4
      rw [E2.out, E3.out]
      have S4 := Lib.hid s4
      have B4 := Lib.hid (sk_below k4 B3.out hwp)
      clear s4 k4
      go_wp2_with fail
      go_roundw
      case rel => exact ⟨j + 1, hlt, by go_num, S4.out, B4.out⟩
      case measure => simp [intOf]; omega
    · obtain rfl : j = k := by omega
      obtain ⟨f1, f2, f3, f4, f5, f6⟩ := seqS_again (m := m) hkm hatk
      have F1 := Lib.hid f1
      have F2 := Lib.hid f2
      have F3 := Lib.hid f3
      have F4 := Lib.hid f4
      have F5 := Lib.hid f5
      have F6 := Lib.hid f6
      clear f1 f2 f3 f4 f5 f6
      go_wp2_with fail
      with_reducible refine (give_slo S3.out (at_ : Int)).mono ?_
      rintro e w4 ⟨rfl, s4, k4⟩
      rw [F1.out]
      have S4 := Lib.hid s4
      have B4 := Lib.hid (sk_below k4 B3.out hwp)
      clear s4 k4
      go_wp2_with fail
      with_reducible refine (take_slo S4.out 99).mono ?_
      rintro e w5 ⟨rfl, s5, k5⟩
      rw [F2.out, F3.out]
      have S5 := Lib.hid s5
      have B5 := Lib.hid (sk_below k5 B4.out hwp)
      clear s5 k5
      go_wp2_with fail
      with_reducible refine (at_slo S5.out (at_ : Int)).mono ?_
      rintro e w6 ⟨rfl, rfl⟩
      rw [F4.out, F5.out]
      obtain ⟨s0, hs0⟩ : ∃ s0, s0 = ((seqS m j).give at_).take 99 := ⟨_, rfl⟩
      rw [← hs0] at S5 F6
      clear hs0
      go_wp2_with fail
      go_loopg [21] (m - j) (fun gk u wr => ∃ (s : St) (c : Nat), gk = m - c ∧ XL2 w p m wr s c)
      case atStart => exact ⟨s0, j, rfl, hkm, S5.out, F6.out, B5.out⟩
      case round =>
        obtain ⟨s, c', hgk, hc', s7, pk, b7⟩ := hrel
        have S7 := Lib.hid s7
        have B7 := Lib.hid b7
        have PK := Lib.hid pk
        have GK := Lib.hid hgk
        clear s7 b7 pk hgk
        go_wp2_with fail
        with_reducible refine (len_slo S7.out).mono ?_
        rintro e w8 ⟨rfl, rfl⟩
        rw [PK.out.len]
        by_cases hlt2 : c' < m
        · go_wp2_with fail
          with_reducible refine (take_slo S7.out 1).mono ?_
          rintro e w9 ⟨rfl, s9, k9⟩
          have e1 : s.full = false := by rw [PK.out.full]; simpa using hlt2
          rw [e1]
          clear e1
          have S9 := Lib.hid s9
          have B9 := Lib.hid (sk_below k9 B7.out hwp)
          have P9 := Lib.hid (PK.out.take hlt2 1)
          clear s9 k9
          go_wp2_with fail
          go_roundg (m - (c' + 1))
          case measure => have := GK.out; omega
          case rel => exact ⟨_, c' + 1, rfl, hlt2, S9.out, P9.out, B9.out⟩
        · obtain rfl : c' = m := by omega
          go_wp2_with fail
          with_reducible refine (take_slo S7.out 2).mono ?_
          rintro e w9 ⟨rfl, s9, k9⟩
          have e1 : s.full = true := by rw [PK.out.full]; simp
          have e2 : s.take 2 = s := by simp [St.take, e1]
          rw [e2] at s9
          rw [e1]
          have hul := PK.out.used s9.ok
          have HUL := Lib.hid hul
          have S9 := Lib.hid s9
          have B9 := Lib.hid (sk_below k9 B7.out hwp)
          clear s9 k9 e1 e2 hul
          go_wp2_with fail
          with_reducible refine (used_slo S9.out).mono ?_
          rintro e w10 ⟨v10, rfl, h10, b10⟩
          obtain ⟨A10, c10, rfl⟩ := h10.shape
          have B10 := Lib.hid (B9.out.trans (b10.mono B9.out.size))
          rw [HUL.out]
          clear h10 b10
          go_wp2_with fail
          go_ret
          exact ⟨rfl, B10.out⟩

end Go.Proofs.Ytjcmbddiffebhaa
