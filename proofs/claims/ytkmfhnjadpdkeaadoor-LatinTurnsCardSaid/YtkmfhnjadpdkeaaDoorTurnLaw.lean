/-
  Plain law: conjugates are Latin squares, with as many transversals and intercalates. No program in sight. No condition.
-/
import Derived.Test.YtkmfhnjadpdkeaaDoorPermAll
import Derived.Test.YtkmfhnjadpdkeaaDoorConjLaw
import Derived.Test.YtkmfhnjadpdkeaaDoorInter2
namespace Go.Proofs.YtkmfhnjadpdkeaaDoor
open Go.RowKit

/-- A table whose rows and columns hold each number once. -/
structure Lq (n : Nat) (q : Nat → Nat → Nat) : Prop where
  lt : ∀ {i j}, i < n → j < n → q i j < n
  row : ∀ {i j k}, i < n → j < n → k < n → q i j = q i k → j = k
  col : ∀ {i j k}, i < n → j < n → k < n → q j i = q k i → j = k
/-- Columns and numbers for one another; rows and columns. -/
def Sw (n : Nat) (q r : Nat → Nat → Nat) : Prop := ∀ i j, i < n → j < n → r i (q i j) = j
def Tr (n : Nat) (q r : Nat → Nat → Nat) : Prop := ∀ i j, i < n → j < n → r j i = q i j
theorem lq_of {n : Nat} {xs : List Int} (h : IsLatin n xs) : Lq n (qn n xs) :=
  ⟨fun hi hj => qn_lt h hi hj, fun hi hj hk e => h.row_inj hi hj hk (by rw [qn_qat h hi hj, qn_qat h hi hk, e]), fun hi hj hk e => h.col_inj hi hj hk (by rw [qn_qat h hj hi, qn_qat h hk hi, e])⟩
section
variable {n : Nat} {q r : Nat → Nat → Nat}
theorem Lq.has (h : Lq n q) {i b : Nat} (hi : i < n) (hb : b < n) : ∃ j, j < n ∧ q i j = b :=
  pigeon n (q i) (fun _ hj => h.lt hi hj) (fun _ _ hj hk e => h.row hi hj hk e) b hb
theorem Lq.symm (h : Lq n q) (hs : Sw n q r) : Sw n r q := fun i x hi hx => by
  obtain ⟨j, hj, e⟩ := h.has hi hx
  rw [← e, hs i j hi hj]
theorem Tr.symm (hs : Tr n q r) : Tr n r q := fun i j hi hj => (hs j i hj hi).symm
theorem Lq.sw (h : Lq n q) (hs : Sw n q r) : Lq n r := by
  have hr : ∀ {i x}, i < n → x < n → r i x < n ∧ q i (r i x) = x := fun {i x} hi hx => by
    obtain ⟨j, hj, e⟩ := h.has hi hx
    rw [← e, hs i j hi hj]; exact ⟨hj, rfl⟩
  refine ⟨fun hi hj => (hr hi hj).1, fun {i j k} hi hj hk e => ?_, fun {i j k} hi hj hk e => ?_⟩
  · rw [← (hr hi hj).2, e, (hr hi hk).2]
  · have h1 := (hr hj hi).2
    rw [e] at h1
    exact h.col (hr hk hi).1 hj hk (by rw [h1, (hr hk hi).2])
theorem Lq.tr (h : Lq n q) (hs : Tr n q r) : Lq n r :=
  ⟨fun {i j} hi hj => by rw [hs j i hj hi]; exact h.lt hj hi, fun {i j k} hi hj hk e => by rw [hs j i hj hi, hs k i hk hi] at e; exact h.col hi hj hk e, fun {i j k} hi hj hk e => by rw [hs i j hi hj, hs i k hi hk] at e; exact h.row hi hj hk e⟩

end
/-- Two places of the square that go to one place of the conjugate are one. -/
theorem cPlace_one {n : Nat} {xs : List Int} {k p q : Nat} (h : IsLatin n xs) (hk : k < 6) (hp : p < n * n) (hq : q < n * n) (he : cPlace n xs k p = cPlace n xs k q) : p = q := by
  have a0 := cAt_lt (k := k) (i := 0) h hp; have a1 := cAt_lt (k := k) (i := 1) h hp
  have b0 := cAt_lt (k := k) (i := 0) h hq; have b1 := cAt_lt (k := k) (i := 1) h hq
  unfold cPlace at he
  have e0 : cAt n xs k 0 p = cAt n xs k 0 q := by
    have h1 := place_div (n := n) (i := cAt n xs k 0 p) a1
    have h2 := place_div (n := n) (i := cAt n xs k 0 q) b1
    exact h1.symm.trans ((congrArg (fun z => dv z n) he).trans h2)
  have e1 : cAt n xs k 1 p = cAt n xs k 1 q := by
    have h1 := place_mod (n := n) (i := cAt n xs k 0 p) a1
    have h2 := place_mod (n := n) (i := cAt n xs k 0 q) b1
    exact h1.symm.trans ((congrArg (fun z => md z n) he).trans h2)
  have hlp : p < xs.length := by rw [h.lenN]; exact hp
  have hlq : q < xs.length := by rw [h.lenN]; exact hq
  have rp := h.rng p hlp; have rq := h.rng q hlq
  have dp : p = dv p n * n + md p n := by unfold dv md; rw [Nat.mul_comm]; exact (Nat.div_add_mod p n).symm
  have dq : q = dv q n * n + md q n := by unfold dv md; rw [Nat.mul_comm]; exact (Nat.div_add_mod q n).symm
  have rc : dv p n = dv q n → md p n = md q n → p = q := fun a b => by rw [dp, dq, a, b]
  have rx : dv p n = dv q n → (ix xs p).toNat = (ix xs q).toNat → p = q := fun a b => h.apart hlp hlq (by omega) (.inl a)
  have cx : md p n = md q n → (ix xs p).toNat = (ix xs q).toNat → p = q := fun a b => h.apart hlp hlq (by omega) (.inr a)
  have h1 : k = 0 ∨ k = 1 ∨ k = 2 ∨ k = 3 ∨ k = 4 ∨ k = 5 := by omega
  rcases h1 with rfl | rfl | rfl | rfl | rfl | rfl
  · exact rc e0 e1
  · exact rx e0 e1
  · exact rc e1 e0
  · exact cx e0 e1
  · exact rx e1 e0
  · exact cx e1 e0
/-- What stands at a place of the conjugate. -/
theorem conj_here {n : Nat} {xs : List Int} {k p : Nat} (h : IsLatin n xs) (hk : k < 6) (hp : p < n * n) : ix (conjL n xs k) (cPlace n xs k p) = (cAt n xs k 2 p : Nat) := by
  rw [conjL_ix (cPlace_lt h hp)]
  have key : ∀ m, m ≤ n * n → p < m → cfill n xs k m (cPlace n xs k p) = (cAt n xs k 2 p : Nat) := by
    intro m
    induction m with
    | zero => intro _ h; omega
    | succ m ih =>
      intro hm hpm
      rw [cfill]
      by_cases e : p = m
      · subst e; rw [if_pos rfl]
      · rw [if_neg (fun e2 => e (cPlace_one h hk hp (by omega) e2)), ih (by omega) (by omega)]
  exact key _ (Nat.le_refl _) hp
theorem three_at {n : Nat} {r c : Nat} (hr : r < n) (hc : c < n) : dv (r * n + c) n = r ∧ md (r * n + c) n = c ∧ r * n + c < n * n := ⟨place_div hc, place_mod hc, place_lt hr hc⟩
/-- Row r, column c, number x: where they stand in a conjugate. -/
theorem conj_put {n : Nat} {xs : List Int} {k r c x : Nat} (h : IsLatin n xs) (hk : k < 6) (hr : r < n) (hc : c < n) (hx : qat n xs r c = x) :
    qat n (conjL n xs k) (p3 r c x (o3 k 0)) (p3 r c x (o3 k 1)) = (p3 r c x (o3 k 2) : Nat) := by
  obtain ⟨a, b, d⟩ := three_at (n := n) hr hc
  have := conj_here (k := k) h hk d
  unfold cPlace cAt at this
  have e : (ix xs (r * n + c)).toNat = x := by
    have : ix xs (r * n + c) = qat n xs r c := rfl
    rw [this, hx]; rfl
  rw [a, b, e] at this
  exact this


theorem markT_iff {n : Nat} {xs p : List Int} {s : Nat} : ∀ {i : Nat}, markT n xs p i s = true ↔ ∃ j, j < i ∧ symAt n xs p j = s
  | 0 => by rw [markT]; exact ⟨(fun h => by cases h), fun ⟨j, h, _⟩ => absurd h (Nat.not_lt_zero _)⟩
  | i + 1 => by
    rw [markT, Bool.or_eq_true, markT_iff (i := i), beq_iff_eq]
    constructor
    · rintro (⟨j, h1, h2⟩ | h)
      · exact ⟨j, by omega, h2⟩
      · exact ⟨i, by omega, h⟩
    · rintro ⟨j, h1, h2⟩
      by_cases e : j = i
      · subst e; exact .inr h2
      · exact .inl ⟨j, by omega, h2⟩
theorem okT_iff {n : Nat} {xs p : List Int} : ∀ {m : Nat}, okT n xs p m = true ↔ ∀ i j, j < i → i < m → symAt n xs p j ≠ symAt n xs p i
  | 0 => by rw [okT]; exact ⟨fun _ i j _ h => absurd h (Nat.not_lt_zero _), fun _ => rfl⟩
  | m + 1 => by
    rw [okT, Bool.and_eq_true, okT_iff (m := m), Bool.not_eq_true', ← Bool.not_eq_true, markT_iff]
    constructor
    · rintro ⟨h1, h2⟩ i j hji hi e
      by_cases e2 : i = m
      · subst e2; exact h2 ⟨j, hji, e⟩
      · exact h1 i j hji (by omega) e
    · intro h
      exact ⟨fun i j h1 h2 => h i j h1 (by omega), fun ⟨j, h1, h2⟩ => h m j h1 (by omega) h2⟩
/-- An order takes unlike numbers. -/
theorem okT_inj {n : Nat} {xs p : List Int} : okT n xs p n = true ↔ ∀ i j, i < n → j < n → qn n xs i (pn p i) = qn n xs j (pn p j) → i = j := by
  rw [okT_iff]
  constructor
  · intro h i j hi hj e
    rcases Nat.lt_trichotomy i j with h1 | h1 | h1
    · exact absurd e (h j i h1 hj)
    · exact h1
    · exact absurd e.symm (h i j h1 hi)
  · intro h i j hji hi e
    have := h j i (by omega) hi e
    omega
theorem ord_ext {n : Nat} {p p' : List Int} (h : Ord n p) (h' : Ord n p') (he : ∀ i, i < n → pn p i = pn p' i) : p = p' :=
  ext_ix (by rw [h.1, h'.1]) fun k hk => by rw [h.1] at hk; rw [pn_ix h.2 h.1 hk, pn_ix h'.2 h'.1 hk, he k hk]
/-- A list of as many numbers as a function of places. -/
def mapN (n : Nat) (f : Nat → Nat) : List Int := (List.range n).map fun i => (f i : Int)
theorem mapN_len (n : Nat) (f : Nat → Nat) : (mapN n f).length = n := by simp [mapN]
theorem mapN_ix {n : Nat} (f : Nat → Nat) {i : Nat} (h : i < n) : ix (mapN n f) i = (f i : Nat) := by simp [mapN, ix, h]
theorem mapN_pn {n : Nat} (f : Nat → Nat) {i : Nat} (h : i < n) : pn (mapN n f) i = f i := by unfold pn; rw [mapN_ix f h]; rfl
theorem mapN_ord {n : Nat} (hn : n ≤ 12) {f : Nat → Nat} (h1 : ∀ i, i < n → f i < n) (h2 : ∀ i j, i < n → j < n → f i = f j → i = j) : Ord n (mapN n f) := by
  refine ⟨mapN_len n f, by rw [mapN_len]; exact hn, fun k hk => ?_, fun i j hi hj e => ?_⟩
  · rw [mapN_len] at hk ⊢
    rw [mapN_ix f hk]; have := h1 k hk; omega
  · rw [mapN_len] at hi hj
    rw [mapN_ix f hi, mapN_ix f hj] at e
    exact h2 i j hi hj (by omega)
/-- Where b stands in an order. -/
def invN (p : List Int) : Nat → Nat → Nat
  | 0, _ => 0
  | i + 1, b => if pn p i = b then i else invN p i b
theorem invN_of {n : Nat} {p : List Int} (h : Ord n p) {i : Nat} : ∀ {m : Nat}, i < m → m ≤ n → invN p m (pn p i) = i
  | 0, h1, _ => by omega
  | m + 1, h1, h2 => by
    rw [invN]
    by_cases e : pn p m = pn p i
    · rw [if_pos e]; exact pn_inj h.2 h.1 (by omega) (by omega) e
    · rw [if_neg e]
      have : i ≠ m := fun e2 => e (by rw [e2])
      exact invN_of h (by omega) (by omega)
theorem invN_spec {n : Nat} {p : List Int} (h : Ord n p) {b : Nat} (hb : b < n) : invN p n b < n ∧ pn p (invN p n b) = b := by
  obtain ⟨i, hi, rfl⟩ := pn_onto h.2 h.1 hb
  rw [invN_of h hi (Nat.le_refl _)]
  exact ⟨hi, rfl⟩
/-- How many orders take unlike numbers. -/
def trC (n : Nat) (xs : List Int) : Nat := cntB (fun k => okT n xs (permOf n k) n) (fct n)
theorem trC_all {n : Nat} {xs : List Int} (h : IsLatin n xs) : transM n xs n 0 0 0 = trC n xs := (trans_all h).symm
section
variable {n : Nat} {xs ys : List Int}
theorem tr_sw (hn : n ≤ 12) (hx : IsLatin n xs) (hs : Sw n (qn n xs) (qn n ys)) : trC n xs ≤ trC n ys := by
  have hq := lq_of hx
  refine cntP_le hn (b := fun p => okT n xs p n) (c := fun p => okT n ys p n) (fun p => mapN n fun i => qn n xs i (pn p i)) (fun p hp hb => ?_) (fun p p' hp hp' _ _ he => ?_)
  · have hok := okT_inj.1 hb
    refine ⟨mapN_ord hn (fun i hi => hq.lt hi (pn_lt hp.2 hp.1 hi)) hok, okT_inj.2 fun i j hi hj e => ?_⟩
    rw [mapN_pn _ hi, mapN_pn _ hj, hs i _ hi (pn_lt hp.2 hp.1 hi), hs j _ hj (pn_lt hp.2 hp.1 hj)] at e
    exact pn_inj hp.2 hp.1 hi hj e
  · refine ord_ext hp hp' fun i hi => ?_
    have : pn (mapN n fun i => qn n xs i (pn p i)) i = pn (mapN n fun i => qn n xs i (pn p' i)) i := by rw [he]
    rw [mapN_pn _ hi, mapN_pn _ hi] at this
    exact hq.row hi (pn_lt hp.2 hp.1 hi) (pn_lt hp'.2 hp'.1 hi) this
theorem tr_tr (hn : n ≤ 12) (hs : Tr n (qn n xs) (qn n ys)) : trC n xs ≤ trC n ys := by
  refine cntP_le hn (b := fun p => okT n xs p n) (c := fun p => okT n ys p n) (fun p => mapN n (invN p n)) (fun p hp hb => ?_) (fun p p' hp hp' _ _ he => ?_)
  · have hok := okT_inj.1 hb
    refine ⟨mapN_ord hn (fun b hb => (invN_spec hp hb).1) (fun a b ha hb e => by rw [← (invN_spec hp ha).2, e, (invN_spec hp hb).2]), okT_inj.2 fun a b ha hb e => ?_⟩
    obtain ⟨a1, a2⟩ := invN_spec hp ha
    obtain ⟨b1, b2⟩ := invN_spec hp hb
    rw [mapN_pn _ ha, mapN_pn _ hb, hs _ a a1 ha, hs _ b b1 hb] at e
    have := hok _ _ a1 b1 (by rw [a2, b2]; exact e)
    rw [← a2, this, b2]
  · refine ord_ext hp hp' fun i hi => ?_
    have hb := pn_lt hp.2 hp.1 hi
    have : pn (mapN n (invN p n)) (pn p i) = pn (mapN n (invN p' n)) (pn p i) := by rw [he]
    rw [mapN_pn _ hb, mapN_pn _ hb, invN_of hp hi (Nat.le_refl _)] at this
    have h2 := (invN_spec hp' hb).2
    rw [← this] at h2
    exact h2.symm
/-! Intercalates. -/
def e4 (q : Nat → Nat → Nat) (i k j l : Nat) : Nat := if q i j = q k l ∧ q i l = q k j then 1 else 0
def iB (n : Nat) (q : Nat → Nat → Nat) (i k : Nat) : Nat := sumTo (fun j => sumTo (e4 q i k j) j) n
def iC (n : Nat) (q : Nat → Nat → Nat) : Nat := sumTo (fun i => sumTo (iB n q i) i) n
theorem int_iC (h : IsLatin n xs) : int0 n xs = iC n (qn n xs) := by
  refine sumTo_congr _ fun i hi => sumTo_congr _ fun k hk => sumTo_congr _ fun j hj => sumTo_congr _ fun l hl => ?_
  unfold int4 interB e4
  rw [qn_qat h hi hj, qn_qat h (show k < n by omega) (show l < n by omega), qn_qat h hi (show l < n by omega), qn_qat h (show k < n by omega) hj]
  by_cases h1 : qn n xs i j = qn n xs k l ∧ qn n xs i l = qn n xs k j
  · rw [if_pos h1, h1.1, h1.2]; simp
  · rw [if_neg h1, if_neg]
    simp only [Bool.and_eq_true, beq_iff_eq]
    intro h2
    exact h1 ⟨by omega, by omega⟩
theorem sumTo_perm (F g : Nat → Nat) (n : Nat) (h1 : ∀ i, i < n → g i < n) (h2 : ∀ i j, i < n → j < n → g i = g j → i = j) : sumTo (fun i => F (g i)) n = sumTo F n := by
  have ea : sumTo (fun i => F (g i)) n = sumTo (fun i => sumTo (fun b => if g i = b then F b else 0) n) n := sumTo_congr _ fun i hi => by
    have : sumTo (fun b => if g i = b then F b else 0) n = sumTo (fun b => if g i = b then F (g i) else 0) n := sumTo_congr _ fun b _ => by
      by_cases e : g i = b
      · rw [if_pos e, if_pos e, e]
      · rw [if_neg e, if_neg e]
    rw [this, sumTo_delta, if_pos (h1 i hi)]
  rw [ea, sumTo_swap]
  refine sumTo_congr _ fun b hb => ?_
  obtain ⟨i0, hi0, e0⟩ := pigeon n g h1 h2 b hb
  have : sumTo (fun i => if g i = b then F b else 0) n = sumTo (fun i => if i0 = i then F b else 0) n := sumTo_congr _ fun i hi => by
    by_cases e : g i = b
    · rw [if_pos e, if_pos (h2 _ _ hi0 hi (by rw [e0, e]))]
    · rw [if_neg e, if_neg (fun e2 => e (by rw [← e2, e0]))]
  rw [this, sumTo_delta, if_pos hi0]
/-- Pairs one way and the other. -/
theorem sumTo_twice (S : Nat → Nat → Nat) : ∀ n, (∀ i j, i < n → j < n → S i j = S j i) → (∀ i, i < n → S i i = 0) → sumTo (fun i => sumTo (S i) n) n = 2 * sumTo (fun i => sumTo (S i) i) n
  | 0, _, _ => rfl
  | n + 1, hs, h0 => by
    have e1 : sumTo (fun i => sumTo (S i) (n + 1)) n = sumTo (fun i => sumTo (S i) n) n + sumTo (fun i => S i n) n := by
      rw [← sumTo_add]; rfl
    have e2 : sumTo (fun i => S i n) n = sumTo (S n) n := sumTo_congr _ fun i hi => hs i n (by omega) (by omega)
    show sumTo (fun i => sumTo (S i) (n + 1)) n + sumTo (S n) (n + 1) = 2 * (sumTo (fun i => sumTo (S i) i) n + sumTo (S n) n)
    rw [e1, e2, sumTo_twice S n (fun i j hi hj => hs i j (by omega) (by omega)) (fun i hi => h0 i (by omega))]
    show _ + (sumTo (S n) n + S n n) = _
    rw [h0 n (by omega)]
    omega
theorem e4_symm (q : Nat → Nat → Nat) (i k j l : Nat) : e4 q i k j l = e4 q i k l j := by
  unfold e4
  by_cases h : q i j = q k l ∧ q i l = q k j
  · rw [if_pos h, if_pos ⟨h.2, h.1⟩]
  · rw [if_neg h, if_neg (fun h2 => h ⟨h2.2, h2.1⟩)]
theorem iB_twice {q : Nat → Nat → Nat} (hq : Lq n q) {i k : Nat} (hi : i < n) (hk : k < n) (hne : i ≠ k) : sumTo (fun j => sumTo (e4 q i k j) n) n = 2 * iB n q i k :=
  sumTo_twice (e4 q i k) n (fun j l _ _ => e4_symm q i k j l) (fun j hj => by
    unfold e4
    rw [if_neg (fun h => hne (hq.col hj hi hk h.1))])
theorem iB_sw {q r : Nat → Nat → Nat} (hq : Lq n q) (hs : Sw n q r) {i k : Nat} (hi : i < n) (hk : k < n) (hne : i ≠ k) : iB n r i k = iB n q i k := by
  have hr := hq.sw hs
  have hb := hq.symm hs
  have h1 := iB_twice hr hi hk hne
  have h2 := iB_twice hq hi hk hne
  have h3 : sumTo (fun x => sumTo (e4 r i k x) n) n = sumTo (fun j => sumTo (e4 q i k j) n) n := by
    rw [← sumTo_perm (fun j => sumTo (e4 q i k j) n) (r i) n (fun x hx => hr.lt hi hx) (fun x y hx hy e => hr.row hi hx hy e)]
    refine sumTo_congr _ fun x hx => ?_
    rw [← sumTo_perm (e4 q i k (r i x)) (r i) n (fun x hx => hr.lt hi hx) (fun x y hx hy e => hr.row hi hx hy e)]
    refine sumTo_congr _ fun y hy => ?_
    unfold e4
    have bx : q i (r i x) = x := hb i x hi hx
    have by' : q i (r i y) = y := hb i y hi hy
    rw [bx, by']
    have key : ∀ x y, x < n → y < n → (r i x = r k y ↔ y = q k (r i x)) := fun x y hx hy => by
      constructor
      · intro e; rw [e, hb k y hk hy]
      · intro e
        have := hs k (r i x) hk (hr.lt hi hx)
        rw [← e] at this
        exact this.symm
    by_cases h : r i x = r k y ∧ r i y = r k x
    · rw [if_pos h, if_pos ⟨(key y x hy hx).1 h.2, (key x y hx hy).1 h.1⟩]
    · rw [if_neg h, if_neg (fun h2 => h ⟨(key x y hx hy).2 h2.2, (key y x hy hx).2 h2.1⟩)]
  omega
theorem tri_if (f : Nat → Nat) {i : Nat} : ∀ {n : Nat}, i ≤ n → sumTo f i = sumTo (fun k => if k < i then f k else 0) n
  | 0, h => by obtain rfl : i = 0 := by omega
               rfl
  | n + 1, h => by
    by_cases e : i = n + 1
    · subst e; exact sumTo_congr _ fun k hk => by rw [if_pos hk]
    · rw [sumTo, if_neg (show ¬ n < i by omega), tri_if f (n := n) (by omega)]; rfl
def sum4 (n : Nat) (f : Nat → Nat → Nat → Nat → Nat) : Nat := sumTo (fun i => sumTo (fun k => sumTo (fun j => sumTo (fun l => f i k j l) n) n) n) n
theorem sum4_swap (n : Nat) (f : Nat → Nat → Nat → Nat → Nat) : sum4 n f = sum4 n (fun j l i k => f i k j l) := by
  have e1 : sum4 n f = sumTo (fun i => sumTo (fun j => sumTo (fun k => sumTo (fun l => f i k j l) n) n) n) n :=
    sumTo_congr _ fun i _ => sumTo_swap (fun k j => sumTo (fun l => f i k j l) n) n n
  have e2 : sumTo (fun i => sumTo (fun j => sumTo (fun k => sumTo (fun l => f i k j l) n) n) n) n = sumTo (fun i => sumTo (fun j => sumTo (fun l => sumTo (fun k => f i k j l) n) n) n) n :=
    sumTo_congr _ fun i _ => sumTo_congr _ fun j _ => sumTo_swap (fun k l => f i k j l) n n
  have e3 : sumTo (fun i => sumTo (fun j => sumTo (fun l => sumTo (fun k => f i k j l) n) n) n) n = sumTo (fun j => sumTo (fun i => sumTo (fun l => sumTo (fun k => f i k j l) n) n) n) n :=
    sumTo_swap (fun i j => sumTo (fun l => sumTo (fun k => f i k j l) n) n) n n
  have e4 : sumTo (fun j => sumTo (fun i => sumTo (fun l => sumTo (fun k => f i k j l) n) n) n) n = sum4 n (fun j l i k => f i k j l) :=
    sumTo_congr _ fun j _ => sumTo_swap (fun i l => sumTo (fun k => f i k j l) n) n n
  rw [e1, e2, e3, e4]
def w4 (q : Nat → Nat → Nat) (i k j l : Nat) : Nat := if k < i then (if l < j then e4 q i k j l else 0) else 0
theorem iC_sum4 (n : Nat) (q : Nat → Nat → Nat) : iC n q = sum4 n (w4 q) := by
  refine sumTo_congr _ fun i hi => ?_
  rw [tri_if (iB n q i) (show i ≤ n by omega)]
  refine sumTo_congr _ fun k hk => ?_
  by_cases h : k < i
  · rw [if_pos h]
    refine sumTo_congr _ fun j hj => ?_
    rw [tri_if (e4 q i k j) (show j ≤ n by omega)]
    exact sumTo_congr _ fun l _ => by unfold w4; rw [if_pos h]
  · rw [if_neg h]
    refine (sumTo_zero _ fun j _ => sumTo_zero _ fun l _ => ?_).symm
    unfold w4; rw [if_neg h]
theorem iC_tr {q r : Nat → Nat → Nat} (hs : Tr n q r) : iC n r = iC n q := by
  rw [iC_sum4, iC_sum4, sum4_swap n (w4 q)]
  refine sumTo_congr _ fun i hi => sumTo_congr _ fun k hk => sumTo_congr _ fun j hj => sumTo_congr _ fun l hl => ?_
  show w4 r i k j l = w4 q j l i k
  unfold w4 e4
  rw [hs j i hj hi, hs l k hl hk, hs l i hl hi, hs j k hj hk]
  by_cases h1 : k < i
  · by_cases h2 : l < j
    · rw [if_pos h1, if_pos h2, if_pos h2, if_pos h1]
      by_cases h : q j i = q l k ∧ q l i = q j k
      · rw [if_pos h, if_pos ⟨h.1, h.2.symm⟩]
      · rw [if_neg h, if_neg (fun h' => h ⟨h'.1, h'.2.symm⟩)]
    · rw [if_pos h1, if_neg h2, if_neg h2]
  · by_cases h2 : l < j
    · rw [if_neg h1, if_pos h2, if_neg h1]
    · rw [if_neg h1, if_neg h2]
theorem iC_congr {q r : Nat → Nat → Nat} (h : ∀ i j, i < n → j < n → r i j = q i j) : iC n r = iC n q :=
  sumTo_congr _ fun i hi => sumTo_congr _ fun k hk => sumTo_congr _ fun j hj => sumTo_congr _ fun l hl => by
    unfold e4
    rw [h i j hi hj, h k l (by omega) (by omega), h i l hi (by omega), h k j (by omega) hj]
theorem iC_sw {q r : Nat → Nat → Nat} (hq : Lq n q) (hs : Sw n q r) : iC n r = iC n q :=
  sumTo_congr _ fun i hi => sumTo_congr _ fun k hk => iB_sw hq hs hi (by omega) (by omega)
end
/-! The six conjugates. -/
def findN (f : Nat → Nat) : Nat → Nat → Nat
  | 0, _ => 0
  | m + 1, b => if f m = b then m else findN f m b
theorem findN_hit {f : Nat → Nat} {b : Nat} : ∀ {m : Nat}, (∃ i, i < m ∧ f i = b) → findN f m b < m ∧ f (findN f m b) = b
  | 0, ⟨i, h, _⟩ => absurd h (Nat.not_lt_zero _)
  | m + 1, ⟨i, h1, h2⟩ => by
    rw [findN]
    by_cases e : f m = b
    · rw [if_pos e]; exact ⟨by omega, e⟩
    · rw [if_neg e]
      have : i ≠ m := fun e2 => e (by rw [← e2]; exact h2)
      have := findN_hit (m := m) ⟨i, by omega, h2⟩
      exact ⟨by omega, this.2⟩
def swF (n : Nat) (q : Nat → Nat → Nat) (i x : Nat) : Nat := findN (q i) n x
def trF (q : Nat → Nat → Nat) (i j : Nat) : Nat := q j i
section
variable {n : Nat} {q : Nat → Nat → Nat}
theorem swF_spec (h : Lq n q) {i x : Nat} (hi : i < n) (hx : x < n) : swF n q i x < n ∧ q i (swF n q i x) = x := findN_hit (h.has hi hx)
theorem sw_swF (h : Lq n q) : Sw n q (swF n q) := fun i j hi hj => by
  obtain ⟨h1, h2⟩ := swF_spec h hi (h.lt hi hj)
  exact h.row hi h1 hj h2
theorem tr_trF (n : Nat) (q : Nat → Nat → Nat) : Tr n q (trF q) := fun _ _ _ _ => rfl
end
def conjQ (n : Nat) (q : Nat → Nat → Nat) (k : Nat) : Nat → Nat → Nat :=
  if k = 0 then q else if k = 1 then swF n q else if k = 2 then trF q else if k = 3 then swF n (trF q) else if k = 4 then trF (swF n q) else trF (swF n (trF q))
section
variable {n : Nat} {xs : List Int}
theorem conjQ_lq {q : Nat → Nat → Nat} (h : Lq n q) {k : Nat} (hk : k < 6) : Lq n (conjQ n q k) := by
  have h1 : k = 0 ∨ k = 1 ∨ k = 2 ∨ k = 3 ∨ k = 4 ∨ k = 5 := by omega
  have t := h.tr (tr_trF n q)
  rcases h1 with rfl | rfl | rfl | rfl | rfl | rfl
  · exact h
  · exact h.sw (sw_swF h)
  · exact t
  · exact t.sw (sw_swF t)
  · exact (h.sw (sw_swF h)).tr (tr_trF _ _)
  · exact (t.sw (sw_swF t)).tr (tr_trF _ _)
theorem conj_qat (h : IsLatin n xs) {k : Nat} (hk : k < 6) {a b : Nat} (ha : a < n) (hb : b < n) : qat n (conjL n xs k) a b = (conjQ n (qn n xs) k a b : Nat) := by
  have hq := lq_of h
  have h1 : k = 0 ∨ k = 1 ∨ k = 2 ∨ k = 3 ∨ k = 4 ∨ k = 5 := by omega
  have t := hq.tr (tr_trF n (qn n xs))
  have put : ∀ r c, r < n → c < n → ∀ k, k < 6 → qat n (conjL n xs k) (p3 r c (qn n xs r c) (o3 k 0)) (p3 r c (qn n xs r c) (o3 k 1)) = (p3 r c (qn n xs r c) (o3 k 2) : Nat) := fun r c hr hc k hk => conj_put h hk hr hc (qn_qat h hr hc)
  rcases h1 with rfl | rfl | rfl | rfl | rfl | rfl
  · exact put a b ha hb 0 hk
  · obtain ⟨c1, c2⟩ := swF_spec hq ha hb
    have := put a _ ha c1 1 hk
    rw [c2] at this; exact this
  · exact put b a hb ha 2 hk
  · obtain ⟨c1, c2⟩ := swF_spec t ha hb
    have := put _ a c1 ha 3 hk
    rw [show qn n xs (swF n (trF (qn n xs)) a b) a = b from c2] at this; exact this
  · obtain ⟨c1, c2⟩ := swF_spec hq hb ha
    have := put b _ hb c1 4 hk
    rw [c2] at this; exact this
  · obtain ⟨c1, c2⟩ := swF_spec t hb ha
    have := put _ b c1 hb 5 hk
    rw [show qn n xs (swF n (trF (qn n xs)) b a) b = a from c2] at this; exact this
theorem conj_qn (h : IsLatin n xs) {k : Nat} (hk : k < 6) {a b : Nat} (ha : a < n) (hb : b < n) : qn n (conjL n xs k) a b = conjQ n (qn n xs) k a b := by
  unfold qn; rw [conj_qat h hk ha hb]; rfl
theorem conj_latin (h : IsLatin n xs) {k : Nat} (hk : k < 6) : IsLatin n (conjL n xs k) := by
  have hq := conjQ_lq (lq_of h) hk
  refine latin_mk (by have := h.lo; omega) (by have := h.hi; omega) (conjL_len _ _ _) (fun i j hi hj => ?_) (fun i j l hi hj hl e => ?_) (fun i j l hi hj hl e => ?_)
  · rw [conj_qat h hk hi hj]; have := hq.lt hi hj; omega
  · rw [conj_qat h hk hi hj, conj_qat h hk hi hl] at e; exact hq.row hi hj hl (by omega)
  · rw [conj_qat h hk hj hi, conj_qat h hk hl hi] at e; exact hq.col hi hj hl (by omega)
theorem conj_int (h : IsLatin n xs) {k : Nat} (hk : k < 6) : int0 n (conjL n xs k) = int0 n xs := by
  rw [int_iC (conj_latin h hk), int_iC h, iC_congr (fun i j hi hj => conj_qn h hk hi hj)]
  have hq := lq_of h
  have t := hq.tr (tr_trF n (qn n xs))
  have h1 : k = 0 ∨ k = 1 ∨ k = 2 ∨ k = 3 ∨ k = 4 ∨ k = 5 := by omega
  rcases h1 with rfl | rfl | rfl | rfl | rfl | rfl
  · rfl
  · exact iC_sw hq (sw_swF hq)
  · exact iC_tr (tr_trF _ _)
  · exact (iC_sw t (sw_swF t)).trans (iC_tr (tr_trF _ _))
  · exact (iC_tr (tr_trF n (swF n (qn n xs)))).trans (iC_sw hq (sw_swF hq))
  · exact (iC_tr (tr_trF n (swF n (trF (qn n xs))))).trans ((iC_sw t (sw_swF t)).trans (iC_tr (tr_trF _ _)))
theorem Sw.as {q q' r r' : Nat → Nat → Nat} (h : Sw n q r) (hq : Lq n q) (e1 : ∀ i j, i < n → j < n → q' i j = q i j) (e2 : ∀ i j, i < n → j < n → r' i j = r i j) : Sw n q' r' := fun i j hi hj => by
  rw [e1 i j hi hj, e2 i _ hi (hq.lt hi hj)]; exact h i j hi hj
theorem Tr.as {q q' r r' : Nat → Nat → Nat} (h : Tr n q r) (e1 : ∀ i j, i < n → j < n → q' i j = q i j) (e2 : ∀ i j, i < n → j < n → r' i j = r i j) : Tr n q' r' := fun i j hi hj => by
  rw [e1 i j hi hj, e2 j i hj hi]; exact h i j hi hj
theorem trC_sw {ys : List Int} (hx : IsLatin n xs) (hy : IsLatin n ys) (hs : Sw n (qn n xs) (qn n ys)) : trC n ys = trC n xs := by
  have hn : n ≤ 12 := by have := hx.hi; omega
  have a := tr_sw hn hx hs
  have b := tr_sw hn hy ((lq_of hx).symm hs)
  omega
theorem trC_tr {ys : List Int} (hx : IsLatin n xs) (hs : Tr n (qn n xs) (qn n ys)) : trC n ys = trC n xs := by
  have hn : n ≤ 12 := by have := hx.hi; omega
  have a := tr_tr hn hs
  have b := tr_tr hn hs.symm
  omega
theorem conj_trans (h : IsLatin n xs) {k : Nat} (hk : k < 6) : trC n (conjL n xs k) = trC n xs := by
  have hq := lq_of h
  have t := hq.tr (tr_trF n (qn n xs))
  have lat := fun k (hk : k < 6) => conj_latin h hk
  have cq := fun k (hk : k < 6) i j hi hj => conj_qn (a := i) (b := j) h hk hi hj
  have s1 : trC n (conjL n xs 1) = trC n xs := trC_sw h (lat 1 (by omega)) ((sw_swF hq).as hq (fun _ _ _ _ => rfl) (cq 1 (by omega)))
  have s2 : trC n (conjL n xs 2) = trC n xs := trC_tr h ((tr_trF n (qn n xs)).as (fun _ _ _ _ => rfl) (cq 2 (by omega)))
  have s3 : trC n (conjL n xs 3) = trC n (conjL n xs 2) := trC_sw (lat 2 (by omega)) (lat 3 (by omega)) ((sw_swF t).as t (cq 2 (by omega)) (cq 3 (by omega)))
  have h1 : k = 0 ∨ k = 1 ∨ k = 2 ∨ k = 3 ∨ k = 4 ∨ k = 5 := by omega
  rcases h1 with rfl | rfl | rfl | rfl | rfl | rfl
  · have hn : n ≤ 12 := by have := h.hi; omega
    refine Nat.le_antisymm ?_ ?_
    · refine cntP_le hn (b := fun p => okT n (conjL n xs 0) p n) (c := fun p => okT n xs p n) id (fun p hp hb => ⟨hp, okT_inj.2 fun i j hi hj e => okT_inj.1 hb i j hi hj ?_⟩) (fun p p' _ _ _ _ e => e)
      rw [cq 0 hk i _ hi (pn_lt hp.2 hp.1 hi), cq 0 hk j _ hj (pn_lt hp.2 hp.1 hj)]; exact e
    · refine cntP_le hn (b := fun p => okT n xs p n) (c := fun p => okT n (conjL n xs 0) p n) id (fun p hp hb => ⟨hp, okT_inj.2 fun i j hi hj e => okT_inj.1 hb i j hi hj ?_⟩) (fun p p' _ _ _ _ e => e)
      have e' : qn n (conjL n xs 0) i (pn p i) = qn n (conjL n xs 0) j (pn p j) := e
      rw [cq 0 hk i _ hi (pn_lt hp.2 hp.1 hi), cq 0 hk j _ hj (pn_lt hp.2 hp.1 hj)] at e'; exact e'
  · exact s1
  · exact s2
  · exact s3.trans s2
  · exact (trC_tr (lat 1 (by omega)) ((tr_trF n (swF n (qn n xs))).as (cq 1 (by omega)) (cq 4 (by omega)))).trans s1
  · exact (trC_tr (lat 3 (by omega)) ((tr_trF n (swF n (trF (qn n xs)))).as (cq 3 (by omega)) (cq 5 (by omega)))).trans (s3.trans s2)
end
end Go.Proofs.YtkmfhnjadpdkeaaDoor
