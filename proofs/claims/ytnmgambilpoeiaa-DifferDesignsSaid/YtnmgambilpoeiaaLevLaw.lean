/-
  Plain laws: what a level is; counting downwards. No program in sight. No condition.
-/
import Derived.Test.YtnmgambilpoeiaaSubs
namespace Go.Proofs.Ytnmgambilpoeiaa
open Go.RowKit

/-- Each t points lie in l blocks. -/
def LevelAt (n : Nat) (xss : List (List Int)) (t l : Nat) : Prop := ∀ P : List Nat, P.Nodup → (∀ x ∈ P, x < n) → P.length = t → lamP xss P = l
theorem hasP_mem {xss : List (List Int)} {P Q : List Nat} (h : ∀ x, x ∈ P ↔ x ∈ Q) (i : Nat) : holdP xss P i = holdP xss Q i := by
  unfold holdP
  rw [Bool.eq_iff_iff, List.all_eq_true, List.all_eq_true]
  exact ⟨fun g x hx => g x ((h x).2 hx), fun g x hx => g x ((h x).1 hx)⟩
theorem lamP_mem {xss : List (List Int)} {P Q : List Nat} (h : ∀ x, x ∈ P ↔ x ∈ Q) : lamP xss P = lamP xss Q := cnt_congr fun i _ => hasP_mem h i
theorem riseL_ge {n : Nat} : ∀ {P : List Nat} {a : Nat}, RiseL n a P → ∀ x ∈ P, a ≤ x ∧ x < n
  | [], _, _, x, hx => by cases hx
  | y :: P, a, ⟨h1, h2, h3⟩, x, hx => by
    rcases List.mem_cons.1 hx with rfl | hx
    · exact ⟨h1, h2⟩
    · have := riseL_ge h3 x hx; omega
theorem riseL_nodup {n : Nat} : ∀ {P : List Nat} {a : Nat}, RiseL n a P → P.Nodup
  | [], _, _ => List.nodup_nil
  | y :: P, a, ⟨h1, h2, h3⟩ => List.nodup_cons.2 ⟨fun hy => by have := riseL_ge h3 y hy; omega, riseL_nodup h3⟩
def insN (x : Nat) : List Nat → List Nat
  | [] => [x]
  | y :: P => if x < y then x :: y :: P else y :: insN x P
theorem insN_spec {n x : Nat} (hx : x < n) : ∀ {P : List Nat} {a : Nat}, RiseL n a P → x ∉ P → a ≤ x → RiseL n a (insN x P) ∧ (insN x P).length = P.length + 1 ∧ ∀ y, y ∈ insN x P ↔ y = x ∨ y ∈ P
  | [], a, _, _, ha => ⟨⟨ha, hx, trivial⟩, rfl, fun y => by simp [insN]⟩
  | y :: P, a, ⟨h1, h2, h3⟩, hn, ha => by
    unfold insN
    simp only [List.mem_cons, not_or] at hn
    by_cases e : x < y
    · rw [if_pos e]; exact ⟨⟨ha, hx, by omega, h2, h3⟩, rfl, fun z => by simp⟩
    · rw [if_neg e]
      obtain ⟨g1, g2, g3⟩ := insN_spec hx h3 hn.2 (by omega)
      refine ⟨⟨h1, h2, g1⟩, by simp [g2], fun z => ?_⟩
      rw [List.mem_cons, g3, List.mem_cons]
      constructor
      · rintro (h | h | h)
        · exact .inr (.inl h)
        · exact .inl h
        · exact .inr (.inr h)
      · rintro (h | h | h)
        · exact .inr (.inl h)
        · exact .inl h
        · exact .inr (.inr h)
theorem sorted_of {n : Nat} : ∀ {P : List Nat}, P.Nodup → (∀ x ∈ P, x < n) → ∃ Q, RiseL n 0 Q ∧ Q.length = P.length ∧ ∀ y, y ∈ Q ↔ y ∈ P
  | [], _, _ => ⟨[], trivial, rfl, fun y => Iff.rfl⟩
  | x :: P, h, g => by
    rw [List.nodup_cons] at h
    obtain ⟨Q, h1, h2, h3⟩ := sorted_of h.2 fun y hy => g y (by simp [hy])
    obtain ⟨g1, g2, g3⟩ := insN_spec (g x (by simp)) h1 (fun hq => h.1 ((h3 x).1 hq)) (Nat.zero_le _)
    refine ⟨insN x Q, g1, by simp [g2, h2], fun y => ?_⟩
    rw [g3, h3]; simp
theorem same_level {n t : Nat} {xss : List (List Int)} (ht : t ≤ n) (h : sameB (lamP xss) (subsL n t 0) = true) : ∃ l : Nat, lamOf (lamP xss) (subsL n t 0) = (l : Int) ∧ LevelAt n xss t l := by
  obtain ⟨l, hl⟩ := Int.eq_ofNat_of_zero_le (lamOf_nonneg (f := lamP xss) (subsL_ne (n := n) (l := t) (a := 0) (by omega)))
  refine ⟨l, hl, fun P h1 h2 h3 => ?_⟩
  obtain ⟨Q, g1, g2, g3⟩ := sorted_of h1 h2
  have := lamOf_mem h (mem_subsL.2 ⟨by omega, g1⟩ : Q ∈ subsL n t 0)
  rw [lamP_mem g3] at this
  omega
theorem level_same {n t l : Nat} {xss : List (List Int)} (ht : t ≤ n) (h : LevelAt n xss t l) : sameB (lamP xss) (subsL n t 0) = true ∧ lamOf (lamP xss) (subsL n t 0) = (l : Int) := by
  have key : ∀ Q ∈ subsL n t 0, lamP xss Q = l := fun Q hQ => by
    obtain ⟨h1, h2⟩ := mem_subsL.1 hQ
    exact h Q (riseL_nodup h2) (fun x hx => (riseL_ge h2 x hx).2) h1
  have hs : sameB (lamP xss) (subsL n t 0) = true := sameB_iff.2 fun x hx y hy => by rw [key x hx, key y hy]
  refine ⟨hs, ?_⟩
  obtain ⟨Q, hQ⟩ := List.exists_mem_of_ne_nil _ (subsL_ne (n := n) (l := t) (a := 0) (by omega))
  rw [lamOf_mem hs hQ, key Q hQ]

/-- A design of a level. -/
structure Lev (n : Nat) (xss : List (List Int)) (t k l : Nat) : Prop where
  des : IsDes n xss
  t4 : t ≤ 4
  tn : t ≤ n
  ne : 0 < xss.length
  uni : ∀ i, i < xss.length → (rx xss i).length = k
  lev : LevelAt n xss t l
theorem lev_ok {n t : Int} {xss : List (List Int)} (h : levE n xss t = 0) : ∃ N T k l : Nat, n = N ∧ t = T ∧ levK n xss t = k ∧ levL n xss t = l ∧ Lev N xss T k l := by
  have h0 := h
  unfold levE at h
  by_cases h1 : desFault n xss ≠ 0
  · rw [if_pos h1] at h; exact absurd h h1
  · rw [if_neg h1] at h
    by_cases h2 : t < 0 ∨ 4 < t ∨ n < t
    · rw [if_pos h2] at h; cases h
    · rw [if_neg h2] at h
      by_cases h3 : xss.length = 0
      · rw [if_pos h3] at h; cases h
      · rw [if_neg h3] at h
        by_cases h4 : uniB xss = false
        · rw [if_pos h4] at h; cases h
        · rw [if_neg h4] at h
          by_cases h5 : sameB (lamP xss) (subsL n.toNat t.toNat 0) = false
          · rw [if_pos h5] at h; cases h
          · have hD := des_of (show desFault n xss = 0 by simpa using h1)
            have := hD.lo
            obtain ⟨N, rfl⟩ := Int.eq_ofNat_of_zero_le (show 0 ≤ n by omega)
            obtain ⟨T, rfl⟩ := Int.eq_ofNat_of_zero_le (show 0 ≤ t by omega)
            rw [Int.toNat_natCast, Int.toNat_natCast] at h5
            obtain ⟨l, hl, hA⟩ := same_level (show T ≤ N by omega) (show sameB (lamP xss) (subsL N T 0) = true by simpa using h5)
            refine ⟨N, T, (rx xss 0).length, l, rfl, rfl, by unfold levK; rw [if_pos h0], by unfold levL; rw [if_pos h0, Int.toNat_natCast, Int.toNat_natCast, hl], hD, by omega, by omega, by omega, fun i hi => ?_, hA⟩
            have h6 : uniB xss = true := by simpa using h4
            have := List.all_eq_true.1 h6 _ (rx_mem hi)
            simpa using this
theorem Lev.ok {n t k l : Nat} {xss : List (List Int)} (h : Lev n xss t k l) : levE n xss t = 0 ∧ levK n xss t = k ∧ levL n xss t = l := by
  have h1 := level_same h.tn h.lev
  have t4 := h.t4; have tn := h.tn; have hne := h.ne
  have hu : uniB xss = true := List.all_eq_true.2 fun b hb => by
    obtain ⟨i, hi, rfl⟩ := List.getElem_of_mem hb
    have e1 := h.uni i hi; have e2 := h.uni 0 hne
    rw [rx_lt hi] at e1
    simp [e1, e2]
  have h0 : levE n xss t = 0 := by
    unfold levE
    rw [if_neg (by rw [h.des.fault]; simp), if_neg (by omega), if_neg (by omega), if_neg (by rw [hu]; decide), Int.toNat_natCast, Int.toNat_natCast, if_neg (by rw [h1.1]; decide)]
  refine ⟨h0, by unfold levK; rw [if_pos h0, h.uni 0 hne], by unfold levL; rw [if_pos h0, Int.toNat_natCast, Int.toNat_natCast, h1.2]⟩

/-- Does block i have point y? -/
def ptB (xss : List (List Int)) (i y : Nat) : Bool := mem (rx xss i) (y : Int)
theorem pickL_cnt (p : Nat → Bool) : ∀ m, (pickL p m).length = cnt p m
  | 0 => rfl
  | m + 1 => by
    rw [cnt]
    cases e : p m
    · rw [pickL_no e, pickL_cnt p m]; rfl
    · rw [pickL_yes e, List.length_append, pickL_cnt p m]; rfl
theorem block_count {n : Nat} {b : List Int} (h : IsBlock n b) : sumL (List.range n) (fun y => ind (mem b (y : Int))) = b.length := by
  have e : b = pickL (fun j => mem b (j : Int)) n := rise_pick h.pair (fun x hx => h.mem_rng hx) fun j _ => mem_iff b j
  have e2 : b.length = cnt (fun j => mem b (j : Int)) n := by rw [← pickL_cnt, ← e]
  rw [e2, cnt_sum]
theorem lamP_sum (xss : List (List Int)) (P : List Nat) : ((lamP xss P : Nat) : Int) = sumL (List.range xss.length) (fun i => ind (holdP xss P i)) := cnt_sum _ _
theorem hasP_cons (xss : List (List Int)) (y : Nat) (P : List Nat) (i : Nat) : holdP xss (y :: P) i = (ptB xss i y && holdP xss P i) := rfl
/-- COUNTING DOWN: pairs of a further point and a block. -/
theorem lev_count {n k t : Nat} {xss : List (List Int)} (hD : IsDes n xss) (hu : ∀ i, i < xss.length → (rx xss i).length = k) {P : List Nat} (h1 : P.Nodup) (h2 : ∀ x ∈ P, x < n) (h3 : P.length = t) :
    sumL (List.range n) (fun y => ind (!P.contains y) * (lamP xss (y :: P) : Int)) = (lamP xss P : Int) * ((k : Int) - t) := by
  have e1 : sumL (List.range n) (fun y => ind (!P.contains y) * (lamP xss (y :: P) : Int)) = sumL (List.range n) (fun y => sumL (List.range xss.length) (fun i => ind (!P.contains y) * ind (holdP xss (y :: P) i))) :=
    sumL_congr fun y _ => by rw [lamP_sum, sumL_mul]
  rw [e1, sumL_swap]
  rw [lamP_sum, ← sumL_mulr]
  refine sumL_congr fun i hi => ?_
  rw [List.mem_range] at hi
  cases e : holdP xss P i
  · rw [ind_false, Int.zero_mul, ← sumL_zero (List.range n)]
    exact sumL_congr fun y _ => by rw [hasP_cons, e, Bool.and_false, ind_false, Int.mul_zero]
  · rw [ind_true, Int.one_mul]
    have e2 : ∀ y, ind (!P.contains y) * ind (holdP xss (y :: P) i) = ind (ptB xss i y) - ind (P.contains y) := by
      intro y
      rw [hasP_cons, e, Bool.and_true, ind_not]
      cases e3 : P.contains y
      · rw [ind_false]; omega
      · have : ptB xss i y = true := List.all_eq_true.1 e y (by simpa using e3)
        rw [this, ind_true]; omega
    rw [sumL_congr fun y _ => e2 y, sumL_sub, nodup_count h1 h2, h3]
    have := block_count (hD.all i hi)
    rw [hu i hi] at this
    have e4 : sumL (List.range n) (fun y => ind (ptB xss i y)) = (k : Int) := this
    rw [e4]
theorem lev_down {n k t l : Nat} {xss : List (List Int)} (hD : IsDes n xss) (hu : ∀ i, i < xss.length → (rx xss i).length = k) (hL : LevelAt n xss (t + 1) l) {P : List Nat} (h1 : P.Nodup) (h2 : ∀ x ∈ P, x < n) (h3 : P.length = t) :
    (lamP xss P : Int) * ((k : Int) - t) = (l : Int) * ((n : Int) - t) := by
  rw [← lev_count hD hu h1 h2 h3]
  have e : ∀ y ∈ List.range n, ind (!P.contains y) * (lamP xss (y :: P) : Int) = (1 - ind (P.contains y)) * (l : Int) := by
    intro y hy
    rw [List.mem_range] at hy
    rw [ind_not]
    cases e3 : P.contains y
    · rw [hL (y :: P) (List.nodup_cons.2 ⟨by simpa using e3, h1⟩) (fun x hx => (List.mem_cons.1 hx).elim (fun e => by rw [e]; exact hy) (h2 x)) (by simp [h3])]
    · rw [ind_true]; simp
  rw [sumL_congr e, sumL_mulr, sumL_sub, nodup_count h1 h2, h3, sumL_const, List.length_range, Int.one_mul, Int.mul_comm]
/-- What is of a level is of the next lower one. -/
theorem Lev.down {n k t l : Nat} {xss : List (List Int)} (h : Lev n xss (t + 1) k l) (hk : t < k) : ∃ m : Nat, Lev n xss t k m ∧ (m : Int) * ((k : Int) - t) = (l : Int) * ((n : Int) - t) := by
  have tn := h.tn; have t4 := h.t4
  have key : ∀ P : List Nat, P.Nodup → (∀ x ∈ P, x < n) → P.length = t → (lamP xss P : Int) * ((k : Int) - t) = (l : Int) * ((n : Int) - t) := fun P h1 h2 h3 => lev_down h.des h.uni h.lev h1 h2 h3
  have hP := mem_subsL.1 (show List.range' 0 t ∈ subsL n t 0 from by
    rw [mem_subsL]
    refine ⟨by simp, ?_⟩
    have : ∀ (s a : Nat), a + s ≤ n → RiseL n a (List.range' a s) := by
      intro s
      induction s with
      | zero => intro a _; trivial
      | succ s ih => intro a ha; rw [List.range'_succ]; exact ⟨Nat.le_refl _, by omega, ih (a + 1) (by omega)⟩
    exact this t 0 (by omega))
  have e0 := key _ (riseL_nodup hP.2) (fun x hx => (riseL_ge hP.2 x hx).2) hP.1
  refine ⟨lamP xss (List.range' 0 t), ⟨h.des, by omega, by omega, h.ne, h.uni, fun P h1 h2 h3 => ?_⟩, e0⟩
  have e1 := key P h1 h2 h3
  have : (lamP xss P : Int) * ((k : Int) - t) = (lamP xss (List.range' 0 t) : Int) * ((k : Int) - t) := by rw [e1, e0]
  have := Int.eq_of_mul_eq_mul_right (by omega) this
  omega
theorem lamP_nil (xss : List (List Int)) : lamP xss [] = xss.length := by
  unfold lamP
  have : ∀ m, cnt (holdP xss []) m = m := by
    intro m
    induction m with
    | zero => rfl
    | succ m ih => rw [cnt, ih]; rfl
  exact this _
theorem Lev.none {n k l : Nat} {xss : List (List Int)} (h : Lev n xss 0 k l) : l = xss.length := by
  rw [← lamP_nil xss]; exact (h.lev [] List.nodup_nil (fun x hx => by cases hx) rfl).symm
theorem Lev.kn {n t k l : Nat} {xss : List (List Int)} (h : Lev n xss t k l) : k ≤ n := by
  rw [← h.uni 0 h.ne]; exact (h.des.all 0 h.ne).len
theorem Lev.lb {n t k l : Nat} {xss : List (List Int)} (h : Lev n xss t k l) : l ≤ xss.length := by
  have hP := mem_subsL.1 (show List.range' 0 t ∈ subsL n t 0 from by
    rw [mem_subsL]
    refine ⟨by simp, ?_⟩
    have : ∀ (s a : Nat), a + s ≤ n → RiseL n a (List.range' a s) := by
      intro s
      induction s with
      | zero => intro a _; trivial
      | succ s ih => intro a ha; rw [List.range'_succ]; exact ⟨Nat.le_refl _, by omega, ih (a + 1) (by omega)⟩
    exact this t 0 (by have := h.tn; omega))
  rw [← h.lev _ (riseL_nodup hP.2) (fun x hx => (riseL_ge hP.2 x hx).2) hP.1]
  exact cnt_le _ _
end Go.Proofs.Ytnmgambilpoeiaa
