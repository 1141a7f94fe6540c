/-
  Plain laws: in how many points blocks meet. No program in sight. No condition.
-/
import Derived.Test.YtkmcmahpfhlkhaaRyser
import Derived.Test.YtkmcmahpfhlkhaaSortC
import Derived.Test.YtkmcmahpfhlkhaaPartsLaw
namespace Go.Proofs.Ytkmcmahpfhlkhaa
open Go.RowKit

/-- In how many points two blocks meet. -/
def tg (n : Nat) (xss : List (List Int)) (i j : Nat) : Nat := cnt (fun y => ptB xss i y && ptB xss j y) n
theorem tg_le (n : Nat) (xss : List (List Int)) (i j : Nat) : tg n xss i j ≤ n := cnt_le _ _
theorem cnt_more {p : Nat → Bool} {n : Nat} : ∀ {m : Nat}, n ≤ m → (∀ y, n ≤ y → p y = false) → cnt p m = cnt p n
  | 0, h, _ => by obtain rfl : n = 0 := by omega
                  rfl
  | m + 1, h, g => by
    by_cases e : n = m + 1
    · subst e; rfl
    · rw [cnt, g m (by omega), cnt_more (m := m) (by omega) g]; simp
theorem mem_far {n : Nat} {b : List Int} (h : IsBlock n b) {y : Nat} (hy : n ≤ y) : mem b (y : Int) = false := by
  cases e : mem b (y : Int)
  · rfl
  · have := h.mem_rng ((mem_iff _ _).1 e); omega
theorem tg_bits {n : Nat} {xss : List (List Int)} (h : IsDes n xss) (hn : n ≤ 64) {i j : Nat} (hi : i < xss.length) (hj : j < xss.length) : cnt (fun y => tb (setOf (rx xss i) &&& setOf (rx xss j)) y) 64 = tg n xss i j := by
  have e : ∀ y, tb (setOf (rx xss i) &&& setOf (rx xss j)) y = (ptB xss i y && ptB xss j y) := fun y => by
    unfold tb
    rw [Nat.testBit_and]
    have e1 := tb_setOf (h.all i hi) y
    have e2 := tb_setOf (h.all j hj) y
    unfold tb at e1 e2
    rw [e1, e2]; rfl
  rw [cnt_congr (q := fun y => ptB xss i y && ptB xss j y) fun y _ => e y]
  exact cnt_more hn fun y hy => by unfold ptB; rw [mem_far (h.all i hi) hy]; rfl
/-- The numbers of the first a in b. -/
def togTo (a b : List Int) : Nat → Nat := cnt fun k => mem b (ix a k)
theorem tg_tog {n : Nat} {xss : List (List Int)} (h : IsDes n xss) {i j : Nat} (hi : i < xss.length) : togTo (rx xss i) (rx xss j) (rx xss i).length = tg n xss i j := by
  have hb := h.all i hi
  have e : rx xss i = pickL (fun y => mem (rx xss i) (y : Int)) n := rise_pick hb.pair (fun x hx => hb.mem_rng hx) fun y _ => mem_iff _ _
  have e1 : ((togTo (rx xss i) (rx xss j) (rx xss i).length : Nat) : Int) = ((tg n xss i j : Nat) : Int) := by
    unfold togTo tg
    rw [cnt_sum, cnt_sum, sum_ix (fun z => ind (mem (rx xss j) z))]
    have e2 : sumL (rx xss i) (fun z => ind (mem (rx xss j) z)) = sumL (pickL (fun y => mem (rx xss i) (y : Int)) n) (fun z => ind (mem (rx xss j) z)) := by rw [← e]
    rw [e2, sum_pick]
    exact sumL_congr fun y _ => (ind_and _ _).symm
  omega
/-- Which numbers have come: of block i and the first j; of all before. -/
def mrow (n : Nat) (xss : List (List Int)) (i : Nat) : Nat → Nat → Bool
  | 0, _ => false
  | j + 1, z => mrow n xss i j z || tg n xss i j == z
def mto (n : Nat) (xss : List (List Int)) : Nat → Nat → Bool
  | 0, _ => false
  | i + 1, z => mto n xss i z || mrow n xss i i z
def meetsL (n : Nat) (xss : List (List Int)) : List Int := pickL (mto n xss xss.length) (n + 1)
theorem mrow_iff {n : Nat} {xss : List (List Int)} {i z : Nat} : ∀ {j : Nat}, mrow n xss i j z = true ↔ ∃ j', j' < j ∧ tg n xss i j' = z
  | 0 => by simp [mrow]
  | j + 1 => by
    rw [mrow, Bool.or_eq_true, mrow_iff, beq_iff_eq]
    constructor
    · rintro (⟨j', h1, h2⟩ | h)
      · exact ⟨j', by omega, h2⟩
      · exact ⟨j, by omega, h⟩
    · rintro ⟨j', h1, h2⟩
      by_cases e : j' = j
      · subst e; exact .inr h2
      · exact .inl ⟨j', by omega, h2⟩
theorem mto_iff {n : Nat} {xss : List (List Int)} {z : Nat} : ∀ {m : Nat}, mto n xss m z = true ↔ ∃ i j, j < i ∧ i < m ∧ tg n xss i j = z
  | 0 => by simp [mto]
  | m + 1 => by
    rw [mto, Bool.or_eq_true, mto_iff, mrow_iff]
    constructor
    · rintro (⟨i, j, h1, h2, h3⟩ | ⟨j, h1, h2⟩)
      · exact ⟨i, j, h1, by omega, h3⟩
      · exact ⟨m, j, h1, by omega, h2⟩
    · rintro ⟨i, j, h1, h2, h3⟩
      by_cases e : i = m
      · subst e; exact .inr ⟨j, h1, h3⟩
      · exact .inl ⟨i, j, h1, by omega, h3⟩
/-- The list of what has come, unlike ones. -/
structure MeetL (n : Nat) (xss : List (List Int)) (i j : Nat) (L : List Int) : Prop where
  nodup : L.Nodup
  rng : ∀ x ∈ L, 0 ≤ x ∧ x < (n : Int) + 1
  mem : ∀ z : Nat, (mto n xss i z || mrow n xss i j z) = true ↔ (z : Int) ∈ L
  len : L.length ≤ i * 200 + j
theorem meetL_nil (n : Nat) (xss : List (List Int)) : MeetL n xss 0 0 [] := ⟨List.nodup_nil, fun x hx => (by cases hx), fun z => by simp [mto, mrow], Nat.zero_le _⟩
theorem MeetL.old {n : Nat} {xss : List (List Int)} {i j : Nat} {L : List Int} (h : MeetL n xss i j L) (hm : Go.Proofs.Ytkmcmahpfhlkhaa.mem L (tg n xss i j : Int) = true) : MeetL n xss i (j + 1) L := by
  refine ⟨h.nodup, h.rng, fun z => ?_, by have := h.len; omega⟩
  rw [mrow, ← Bool.or_assoc, Bool.or_eq_true, h.mem z, beq_iff_eq]
  constructor
  · rintro (g | g)
    · exact g
    · rw [← g]; exact (mem_iff _ _).1 hm
  · exact .inl
theorem MeetL.new {n : Nat} {xss : List (List Int)} {i j : Nat} {L : List Int} (h : MeetL n xss i j L) (hm : Go.Proofs.Ytkmcmahpfhlkhaa.mem L (tg n xss i j : Int) = false) : MeetL n xss i (j + 1) (L ++ [(tg n xss i j : Int)]) := by
  have hnm : (tg n xss i j : Int) ∉ L := fun hc => by rw [(mem_iff _ _).2 hc] at hm; cases hm
  refine ⟨?_, fun x hx => ?_, fun z => ?_, by have := h.len; simp; omega⟩
  · rw [List.nodup_append]
    exact ⟨h.nodup, by simp, fun a ha b hb => by simp at hb; subst hb; rintro rfl; exact hnm ha⟩
  · rcases List.mem_append.1 hx with hx | hx
    · exact h.rng x hx
    · simp at hx; subst hx; have := tg_le n xss i j; omega
  · rw [mrow, ← Bool.or_assoc, Bool.or_eq_true, h.mem z, beq_iff_eq, List.mem_append, List.mem_singleton]
    constructor
    · rintro (g | g)
      · exact .inl g
      · exact .inr (by omega)
    · rintro (g | g)
      · exact .inl g
      · exact .inr (by omega)
theorem MeetL.row {n : Nat} {xss : List (List Int)} {i : Nat} {L : List Int} (h : MeetL n xss i i L) (hi : i < 200) : MeetL n xss (i + 1) 0 L :=
  ⟨h.nodup, h.rng, fun z => by rw [mto, mrow, Bool.or_false]; exact h.mem z, by have := h.len; omega⟩
theorem MeetL.fin {n : Nat} {xss : List (List Int)} {L : List Int} (h : MeetL n xss xss.length 0 L) : sortI L = meetsL n xss := by
  refine rise_pick (n := n + 1) (sortI_lt h.nodup) (fun x hx => ?_) fun z _ => ?_
  · have := h.rng x (sortI_mem.1 hx); omega
  · rw [sortI_mem, ← h.mem z, mrow, Bool.or_false]
end Go.Proofs.Ytkmcmahpfhlkhaa
