/-
  Transversals: all orders looked at, or row by row: the same count. No program in sight. No condition.
-/
import Derived.Test.YtkmfhnjadpdkeaaDoorInter2
import Derived.Test.YtkmfhnjadpdkeaaDoorPerm
namespace Go.Proofs.YtkmfhnjadpdkeaaDoor
open Go.RowKit

/-- What an order of the columns takes in row i. -/
def symAt (n : Nat) (xs p : List Int) (i : Nat) : Nat := (qat n xs i (ix p i).toNat).toNat
def markT (n : Nat) (xs p : List Int) : Nat → Nat → Bool
  | 0, _ => false
  | i + 1, j => markT n xs p i j || symAt n xs p i == j
def okT (n : Nat) (xs p : List Int) : Nat → Bool
  | 0 => true
  | i + 1 => okT n xs p i && !markT n xs p i (symAt n xs p i)
theorem okT_false {n : Nat} {xs p : List Int} {i m : Nat} (h : i ≤ m) (e : okT n xs p i = false) : okT n xs p m = false := by
  induction m with
  | zero => have : i = 0 := by omega
            subst this; exact e
  | succ m ih =>
    by_cases hm : i = m + 1
    · subst hm; exact e
    · rw [okT, ih (by omega)]; rfl

theorem sumTo_split (f : Nat → Nat) (m : Nat) : ∀ q, sumTo f (q * m) = sumTo (fun i => sumTo (fun j => f (i * m + j)) m) q
  | 0 => by simp [sumTo]
  | q + 1 => by
    rw [sumTo, ← sumTo_split f m q, Nat.succ_mul]
    have : ∀ j, sumTo f (q * m + j) = sumTo f (q * m) + sumTo (fun j => f (q * m + j)) j := by
      intro j
      induction j with
      | zero => simp [sumTo]
      | succ j ih => rw [← Nat.add_assoc, sumTo, sumTo, ih]; omega
    exact this m

theorem pickU_at {out : List Int} {x : Nat} (hx : mem out (x : Int) = false) : ∀ {n : Nat}, x < n → pickU out (cntU out x) n = x
  | 0, h => by omega
  | n + 1, h => by
    rw [pickU]
    by_cases e : x = n
    · subst e; rw [if_pos ⟨hx, rfl⟩]
    · rw [if_neg]
      · exact pickU_at hx (by omega)
      · intro h2
        have := cntU_lt out (show x < n by omega) hx
        omega
/-- The numbers that are not taken, one by one or by their count. -/
theorem sum_pick (out : List Int) (g : Nat → Nat) (n : Nat) : ∀ m, m ≤ n → sumTo (fun x => if mem out (x : Int) then 0 else g x) m = sumTo (fun q => g (pickU out q n)) (cntU out m)
  | 0, _ => rfl
  | m + 1, h => by
    rw [sumTo, sum_pick out g n m (by omega), cntU]
    cases hm : mem out (m : Int)
    · show _ + g m = sumTo _ (cntU out m + 1)
      rw [sumTo, pickU_at hm (by omega)]
    · rfl

theorem ix_append {xs ys : List Int} {i : Nat} (h : i < xs.length) : ix (xs ++ ys) i = ix xs i := by
  unfold ix; rw [List.getD_eq_getElem?_getD, List.getD_eq_getElem?_getD, List.getElem?_append_left h]
theorem unrank_prefix (n : Nat) : ∀ l out k, ∃ t, unrank n l out k = out ++ t
  | 0, out, _ => ⟨[], by rw [unrank, List.append_nil]⟩
  | l + 1, out, k => by
    obtain ⟨t, h⟩ := unrank_prefix n l (out ++ [((pickU out (k / fct l) n : Nat) : Int)]) (k % fct l)
    exact ⟨[((pickU out (k / fct l) n : Nat) : Int)] ++ t, by rw [unrank, h, List.append_assoc]⟩
section
variable {n : Nat} {xs : List Int}
theorem symAt_append {p q : List Int} {i : Nat} (h : i < p.length) : symAt n xs (p ++ q) i = symAt n xs p i := by unfold symAt; rw [ix_append h]
theorem markT_append {p q : List Int} : ∀ {i : Nat}, i ≤ p.length → ∀ j, markT n xs (p ++ q) i j = markT n xs p i j
  | 0, _, _ => rfl
  | i + 1, h, j => by rw [markT, markT, markT_append (by omega), symAt_append (by omega)]
theorem okT_append {p q : List Int} : ∀ {i : Nat}, i ≤ p.length → okT n xs (p ++ q) i = okT n xs p i
  | 0, _ => rfl
  | i + 1, h => by rw [okT, okT, okT_append (by omega), markT_append (by omega), symAt_append (by omega)]

theorem sumTo_zero {f : Nat → Nat} : ∀ k, (∀ i, i < k → f i = 0) → sumTo f k = 0
  | 0, _ => rfl
  | k + 1, h => by rw [sumTo, sumTo_zero k (fun i hi => h i (by omega)), h k (by omega)]

def okN (n : Nat) (xs p : List Int) : Nat := if okT n xs p n then 1 else 0
theorem trans_law (hxs : ∀ i j, i < n → j < n → 0 ≤ qat n xs i j) : ∀ (l : Nat) (out : List Int) (C D : Nat), out.length + l = n → cntU out n = l →
    (∀ x, x < n → tb C x = mem out (x : Int)) → (∀ y, tb D y = markT n xs out out.length y) → okT n xs out out.length = true →
    sumTo (fun k => okN n xs (unrank n l out k)) (fct l) = transM n xs l out.length C D
  | 0, out, C, D, hl, _, _, _, hok => by
    have e : out.length = n := by omega
    show sumTo _ 1 = 1
    rw [sumTo, sumTo, unrank, okN]
    rw [e] at hok
    rw [hok]; rfl
  | l + 1, out, C, D, hl, hc, hC, hD, hok => by
    rw [show fct (l + 1) = (l + 1) * fct l from rfl, sumTo_split, transM]
    have e1 : sumTo (fun i => sumTo (fun j => okN n xs (unrank n (l + 1) out (i * fct l + j))) (fct l)) (l + 1)
        = sumTo (fun i => sumTo (fun j => okN n xs (unrank n l (out ++ [((pickU out i n : Nat) : Int)]) j)) (fct l)) (l + 1) := by
      refine sumTo_congr _ fun i _ => sumTo_congr _ fun j hj => ?_
      have h1 : (i * fct l + j) / fct l = i := by rw [Nat.mul_comm, Nat.mul_add_div (fct_pos l), Nat.div_eq_of_lt hj]; rfl
      have h2 : (i * fct l + j) % fct l = j := by rw [Nat.mul_comm, Nat.mul_add_mod, Nat.mod_eq_of_lt hj]
      rw [unrank, h1, h2]
    rw [e1, ← hc, ← sum_pick out (fun x => sumTo (fun j => okN n xs (unrank n l (out ++ [(x : Int)]) j)) (fct l)) n n (Nat.le_refl _)]
    refine sumTo_congr _ fun x hx => ?_
    rw [← hC x hx]
    cases hm : tb C x
    · rw [hC x hx] at hm
      have hr : out.length < (out ++ [(x : Int)]).length := by simp
      have hs : symAt n xs (out ++ [(x : Int)]) out.length = (qat n xs out.length x).toNat := by
        unfold symAt ix; simp
      have hlen : (out ++ [(x : Int)]).length = out.length + 1 := by simp
      have hokx : okT n xs (out ++ [(x : Int)]) (out.length + 1) = !tb D (qat n xs out.length x).toNat := by
        rw [okT, okT_append (Nat.le_refl _), hok, markT_append (Nat.le_refl _), hs, hD, Bool.true_and]
      cases hd : tb D (qat n xs out.length x).toNat
      · rw [hd] at hokx
        have ih := trans_law hxs l (out ++ [(x : Int)]) (sb C x) (sb D (qat n xs out.length x).toNat) (by rw [hlen]; omega)
          (by have := cntU_snoc out x hm n; rw [if_pos hx] at this; omega)
          (fun y hy => by rw [tb_sb, hC y hy, mem_snocN]) (fun y => by rw [tb_sb, hD, hlen, markT, markT_append (Nat.le_refl _), hs]) (by rw [hlen, hokx]; rfl)
        rw [hlen] at ih
        simpa using ih
      · rw [hd] at hokx
        have : sumTo (fun j => okN n xs (unrank n l (out ++ [(x : Int)]) j)) (fct l) = 0 := by
          refine sumTo_zero _ fun j _ => ?_
          obtain ⟨t, ht⟩ := unrank_prefix n l (out ++ [(x : Int)]) j
          unfold okN
          rw [ht]
          have h3 : okT n xs ((out ++ [(x : Int)]) ++ t) (out.length + 1) = false := by rw [okT_append (by rw [hlen]; exact Nat.le_refl _), hokx]; rfl
          rw [okT_false (by omega) h3]; rfl
        simpa using this
    · simp
theorem trans_all (hL : IsLatin n xs) : sumTo (fun k => okN n xs (permOf n k)) (fct n) = transM n xs n 0 0 0 :=
  trans_law (fun i j hi hj => (hL.cell hi hj).1) n [] 0 0 (by simp) (cntU_nil n) (fun x _ => by simp [tb, mem]) (fun y => by simp [tb, markT]) rfl
end
end Go.Proofs.YtkmfhnjadpdkeaaDoor
