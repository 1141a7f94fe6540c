/-
  Plain law: a square by other names is a Latin square, and alike, both ways. No program in sight. No condition.
-/
import Derived.Test.YtkmfhnjadpdkeaaDoorNamLaw
import Derived.Test.YtkmfhnjadpdkeaaDoorPermQ
import Derived.Test.YtkmfhnjadpdkeaaDoorInts
namespace Go.Proofs.YtkmfhnjadpdkeaaDoor
open Go.RowKit

section
variable (n : Nat) (xs ps : List Int)
/-- Where the product of x and y goes; the cells behind k products. -/
def renAt (k : Nat) : Nat := pn ps (dv k n) * n + pn ps (md k n)
def rfill : Nat → Nat → Int
  | 0, _ => 0
  | k + 1, j => if j = renAt n ps k then (pn ps (qn n xs (dv k n) (md k n)) : Nat) else rfill k j
def renL : List Int := (List.range (n * n)).map (rfill n xs ps (n * n))
end
theorem renL_len (n : Nat) (xs ps : List Int) : (renL n xs ps).length = n * n := by simp [renL]
theorem renL_ix {n : Nat} {xs ps : List Int} {j : Nat} (h : j < n * n) : ix (renL n xs ps) j = rfill n xs ps (n * n) j := by simp [renL, ix, h]
section
variable {n : Nat} {xs ps : List Int}
theorem pn_lt (hp : PermQ ps) (hl : ps.length = n) {k : Nat} (hk : k < n) : pn ps k < n := by
  have := hp.rng k (by omega); unfold pn; omega
theorem pn_ix (hp : PermQ ps) (hl : ps.length = n) {k : Nat} (hk : k < n) : ix ps k = (pn ps k : Nat) := by
  have := hp.rng k (by omega); unfold pn; omega
theorem pn_inj (hp : PermQ ps) (hl : ps.length = n) {i j : Nat} (hi : i < n) (hj : j < n) (h : pn ps i = pn ps j) : i = j :=
  hp.inj i j (by omega) (by omega) (by rw [pn_ix hp hl hi, pn_ix hp hl hj, h])
theorem pn_onto (hp : PermQ ps) (hl : ps.length = n) {b : Nat} (hb : b < n) : ∃ i, i < n ∧ pn ps i = b :=
  pigeon n (pn ps) (fun _ hi => pn_lt hp hl hi) (fun _ _ hi hj h => pn_inj hp hl hi hj h) b hb
theorem place_inj {a b c d : Nat} (hb : b < n) (hd : d < n) (h : a * n + b = c * n + d) : a = c ∧ b = d := by
  have h1 := place_div (n := n) (i := a) hb
  have h2 := place_div (n := n) (i := c) hd
  have h3 := place_mod (n := n) (i := a) hb
  have h4 := place_mod (n := n) (i := c) hd
  rw [h] at h1 h3
  exact ⟨by omega, by omega⟩
theorem place_back {k : Nat} : dv k n * n + md k n = k := by unfold dv md; rw [Nat.mul_comm]; exact Nat.div_add_mod k n
theorem rfill_at (hp : PermQ ps) (hl : ps.length = n) {x y : Nat} (hx : x < n) (hy : y < n) : ∀ {k : Nat}, x * n + y < k → k ≤ n * n → rfill n xs ps k (pn ps x * n + pn ps y) = (pn ps (qn n xs x y) : Nat)
  | 0, h, _ => by omega
  | k + 1, h, hk => by
    have hn : 0 < n := by omega
    have hdk : dv k n < n := by unfold dv; exact (Nat.div_lt_iff_lt_mul hn).2 (by omega)
    have hmk : md k n < n := by unfold md; exact Nat.mod_lt _ hn
    rw [rfill]
    by_cases e : pn ps x * n + pn ps y = renAt n ps k
    · obtain ⟨e1, e2⟩ := place_inj (pn_lt hp hl hy) (pn_lt hp hl hmk) e
      rw [if_pos e, ← pn_inj hp hl hx hdk e1, ← pn_inj hp hl hy hmk e2]
    · rw [if_neg e]
      refine rfill_at hp hl hx hy ?_ (by omega)
      have : x * n + y ≠ k := fun e2 => e (by
        unfold renAt
        rw [← e2, place_div hy, place_mod hy])
      omega
theorem ren_qat (hp : PermQ ps) (hl : ps.length = n) {x y : Nat} (hx : x < n) (hy : y < n) : qat n (renL n xs ps) (pn ps x) (pn ps y) = (pn ps (qn n xs x y) : Nat) := by
  unfold qat
  rw [renL_ix (place_lt (pn_lt hp hl hx) (pn_lt hp hl hy)), rfill_at hp hl hx hy (place_lt hx hy) (Nat.le_refl _)]
theorem ren_qn (hp : PermQ ps) (hl : ps.length = n) {x y : Nat} (hx : x < n) (hy : y < n) : qn n (renL n xs ps) (pn ps x) (pn ps y) = pn ps (qn n xs x y) := by
  unfold qn; rw [ren_qat hp hl hx hy]; rfl
theorem once_of {n : Nat} {xs : List Int} (h : ∀ i k, k < i → i < xs.length → clash n xs i k = false) : onceB n xs = true := by
  have hrow : ∀ i m, i < xs.length → m ≤ i → clashRow n xs i m = false := fun i m hi hm => by
    induction m with
    | zero => rfl
    | succ m ih => rw [clashRow, ih (by omega), h i m (by omega) hi]; rfl
  have hto : ∀ m, m ≤ xs.length → clashTo n xs m = false := fun m hm => by
    induction m with
    | zero => rfl
    | succ m ih => rw [clashTo, ih (by omega), hrow m m (by omega) (Nat.le_refl _)]; rfl
  rw [onceB, hto _ (Nat.le_refl _)]; rfl
theorem clash_no {n : Nat} {xs : List Int} {i k : Nat} (h : ¬ (ix xs i = ix xs k ∧ (dv i n = dv k n ∨ md i n = md k n))) : clash n xs i k = false := by
  cases e : clash n xs i k
  · rfl
  · unfold clash at e
    have e3 : ((i : Int) % n == (k : Int) % n) = (md i n == md k n) := by
      rw [Bool.eq_iff_iff]; unfold md; simp only [beq_iff_eq]; omega
    rw [e3, Bool.and_eq_true, Bool.or_eq_true] at e
    exact absurd ⟨eq_of_beq e.1, e.2.imp eq_of_beq eq_of_beq⟩ h
/-- A square whose rows and columns hold each number once. -/
theorem latin_mk (hn1 : 1 ≤ n) (hn8 : n ≤ 8) (hl : xs.length = n * n) (hr : ∀ i j, i < n → j < n → 0 ≤ qat n xs i j ∧ qat n xs i j < n)
    (h1 : ∀ i j k, i < n → j < n → k < n → qat n xs i j = qat n xs i k → j = k) (h2 : ∀ i j k, i < n → j < n → k < n → qat n xs j i = qat n xs k i → j = k) : IsLatin n xs := by
  have hq : ∀ p, ix xs p = qat n xs (dv p n) (md p n) := fun p => by unfold qat; rw [place_back]
  have hd : ∀ p, p < xs.length → dv p n < n ∧ md p n < n := fun p hp => ⟨by unfold dv; exact (Nat.div_lt_iff_lt_mul (by omega)).2 (by omega), by unfold md; exact Nat.mod_lt _ (by omega)⟩
  refine ⟨by omega, by omega, by rw [hl, Int.natCast_mul], fun k hk => by rw [hq k]; exact hr _ _ (hd k hk).1 (hd k hk).2, ?_⟩
  rw [Int.toNat_natCast]
  refine once_of fun i k hk hi => clash_no fun ⟨e, hs⟩ => ?_
  obtain ⟨a1, a2⟩ := hd i hi
  obtain ⟨b1, b2⟩ := hd k (by omega)
  rw [hq i, hq k] at e
  have hik : i = k := by
    rcases hs with hs | hs
    · rw [hs] at e
      have := h1 _ _ _ b1 a2 b2 e
      rw [← place_back (n := n) (k := i), ← place_back (n := n) (k := k), hs, this]
    · rw [hs] at e
      have := h2 _ _ _ b2 a1 b1 e
      rw [← place_back (n := n) (k := i), ← place_back (n := n) (k := k), hs, this]
  omega
theorem ren_latin (hL : IsLatin n xs) (hp : PermQ ps) (hl : ps.length = n) : IsLatin n (renL n xs ps) := by
  have hn8 : n ≤ 8 := by have := hL.hi; omega
  have hn1 : 1 ≤ n := by have := hL.lo; omega
  refine latin_mk hn1 hn8 (renL_len _ _ _) (fun i j hi hj => ?_) (fun i j k hi hj hk e => ?_) (fun i j k hi hj hk e => ?_)
  · obtain ⟨x, hx, rfl⟩ := pn_onto hp hl hi
    obtain ⟨y, hy, rfl⟩ := pn_onto hp hl hj
    rw [ren_qat hp hl hx hy]
    have := pn_lt hp hl (qn_lt hL hx hy); omega
  · obtain ⟨x, hx, rfl⟩ := pn_onto hp hl hi
    obtain ⟨y, hy, rfl⟩ := pn_onto hp hl hj
    obtain ⟨z, hz, rfl⟩ := pn_onto hp hl hk
    rw [ren_qat hp hl hx hy, ren_qat hp hl hx hz] at e
    have e2 := pn_inj hp hl (qn_lt hL hx hy) (qn_lt hL hx hz) (by omega)
    have := hL.row_inj hx hy hz (by rw [qn_qat hL hx hy, qn_qat hL hx hz, e2])
    rw [this]
  · obtain ⟨x, hx, rfl⟩ := pn_onto hp hl hi
    obtain ⟨y, hy, rfl⟩ := pn_onto hp hl hj
    obtain ⟨z, hz, rfl⟩ := pn_onto hp hl hk
    rw [ren_qat hp hl hy hx, ren_qat hp hl hz hx] at e
    have e2 := pn_inj hp hl (qn_lt hL hy hx) (qn_lt hL hz hx) (by omega)
    have := hL.col_inj hx hy hz (by rw [qn_qat hL hy hx, qn_qat hL hz hx, e2])
    rw [this]
theorem ren_nam (hp : PermQ ps) (hl : ps.length = n) : namB n xs (renL n xs ps) ps = true :=
  namB_iff.2 fun x y hx hy _ => ren_qn hp hl (by omega) (by omega)
theorem nodup_of_inj {qs : List Int} (h : ∀ i j, i < qs.length → j < qs.length → ix qs i = ix qs j → i = j) : qs.Nodup := by
  rw [List.Nodup, List.pairwise_iff_getElem]
  intro i j hi hj hij e
  have := h i j hi hj (by rw [ix_lt hi, ix_lt hj, e])
  omega
theorem ren_found (hp : PermQ ps) (hl : ps.length = n) : (firR n (namB n xs (renL n xs ps)) n []).isSome = true :=
  firR_isSome (namB_pre n xs (renL n xs ps)) (t := ps) (ren_nam hp hl) hl (fun y hy => by
    obtain ⟨i, hi, rfl⟩ := List.mem_iff_getElem.1 hy
    have := hp.rng i hi
    rw [ix_lt hi] at this
    omega) (nodup_of_inj hp.inj)
/-- The names back. -/
theorem ren_back (hL : IsLatin n xs) (hp : PermQ ps) (hl : ps.length = n) : (firR n (namB n (renL n xs ps) xs) n []).isSome = true := by
  have hex : ∀ b, ∃ i, b < n → i < n ∧ pn ps i = b := fun b => by
    by_cases hb : b < n
    · obtain ⟨i, h1, h2⟩ := pn_onto hp hl hb; exact ⟨i, fun _ => ⟨h1, h2⟩⟩
    · exact ⟨0, fun h => absurd h hb⟩
  obtain ⟨q, hq⟩ := Classical.axiomOfChoice hex
  have hlen : ((List.range n).map fun b => (q b : Int)).length = n := by simp
  have hix : ∀ b, b < n → ix ((List.range n).map fun b => (q b : Int)) b = (q b : Int) := fun b hb => by simp [ix, hb]
  have hpn : ∀ b, b < n → pn ((List.range n).map fun b => (q b : Int)) b = q b := fun b hb => by unfold pn; rw [hix b hb]; rfl
  refine firR_isSome (namB_pre n (renL n xs ps) xs) (t := (List.range n).map fun b => (q b : Int)) ?_ hlen ?_ (nodup_of_inj ?_)
  · rw [List.nil_append]
    refine namB_iff.2 fun a b ha hb hc => ?_
    rw [hlen] at ha hb hc
    rw [hpn a ha, hpn b hb, hpn _ hc]
    obtain ⟨a1, a2⟩ := hq a ha
    obtain ⟨b1, b2⟩ := hq b hb
    obtain ⟨c1, c2⟩ := hq _ hc
    refine pn_inj hp hl (qn_lt hL a1 b1) c1 ?_
    rw [c2, ← ren_qn hp hl a1 b1, a2, b2]
  · intro y hy
    obtain ⟨b, hb, rfl⟩ := List.mem_map.1 hy
    have := (hq b (List.mem_range.1 hb)).1
    omega
  · intro i j hi hj e
    rw [List.nil_append, hlen] at hi hj
    rw [List.nil_append, hix i hi, hix j hj] at e
    have h1 := (hq i hi).2
    have h2 := (hq j hj).2
    have : q i = q j := by omega
    rw [← h1, ← h2, this]
end
end Go.Proofs.YtkmfhnjadpdkeaaDoor
