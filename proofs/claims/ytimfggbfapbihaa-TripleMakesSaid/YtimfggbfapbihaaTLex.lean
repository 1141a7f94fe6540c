/-
  Lists in order, number by number; sorted rows. Plain law. No condition.
-/
import Derived.Test.YtimfggbfapbihaaSortC
import Derived.Test.YtimfggbfapbihaaLists
namespace Go.Proofs.Ytimfggbfapbihaa
open Go.RowKit

def lexB : List Int → List Int → Bool
  | [], [] => false
  | [], _ :: _ => true
  | _ :: _, [] => false
  | x :: a, y :: b => if x < y then true else if y < x then false else lexB a b
def cmpL : List Int → List Int → Int
  | [], [] => 0
  | [], _ :: _ => -1
  | _ :: _, [] => 1
  | x :: a, y :: b => if x < y then -1 else if y < x then 1 else cmpL a b
theorem cmpL_lt : ∀ (a b : List Int), decide (cmpL a b < 0) = lexB a b
  | [], [] => rfl
  | [], _ :: _ => rfl
  | _ :: _, [] => rfl
  | x :: a, y :: b => by
    have ih := cmpL_lt a b
    by_cases h1 : x < y
    · have e1 : cmpL (x :: a) (y :: b) = -1 := by simp only [cmpL]; rw [if_pos h1]
      have e2 : lexB (x :: a) (y :: b) = true := by simp only [lexB]; rw [if_pos h1]
      rw [e1, e2]; rfl
    · by_cases h2 : y < x
      · have e1 : cmpL (x :: a) (y :: b) = 1 := by simp only [cmpL]; rw [if_neg h1, if_pos h2]
        have e2 : lexB (x :: a) (y :: b) = false := by simp only [lexB]; rw [if_neg h1, if_pos h2]
        rw [e1, e2]; rfl
      · have e1 : cmpL (x :: a) (y :: b) = cmpL a b := by simp only [cmpL]; rw [if_neg h1, if_neg h2]
        have e2 : lexB (x :: a) (y :: b) = lexB a b := by simp only [lexB]; rw [if_neg h1, if_neg h2]
        rw [e1, e2]; exact ih
theorem lexB_irrefl : ∀ (a : List Int), lexB a a = false
  | [] => rfl
  | x :: a => by simp only [lexB]; rw [if_neg (by omega), if_neg (by omega)]; exact lexB_irrefl a
theorem lexB_trans : ∀ {a b c : List Int}, lexB a b = true → lexB b c = true → lexB a c = true
  | [], [], _, h1, _ => by cases h1
  | [], _ :: _, [], _, h2 => by cases h2
  | [], _ :: _, _ :: _, _, _ => rfl
  | _ :: _, [], _, h1, _ => by cases h1
  | _ :: _, _ :: _, [], _, h2 => by cases h2
  | x :: a, y :: b, z :: c, h1, h2 => by
    simp only [lexB] at h1 h2 ⊢
    by_cases e1 : x < y
    · by_cases e2 : y < z
      · rw [if_pos (by omega)]
      · rw [if_neg e2] at h2
        by_cases e3 : z < y
        · rw [if_pos e3] at h2; cases h2
        · rw [if_pos (by omega)]
    · rw [if_neg e1] at h1
      by_cases e3 : y < x
      · rw [if_pos e3] at h1; cases h1
      · rw [if_neg e3] at h1
        by_cases e2 : y < z
        · rw [if_pos (by omega)]
        · rw [if_neg e2] at h2
          by_cases e4 : z < y
          · rw [if_pos e4] at h2; cases h2
          · rw [if_neg e4] at h2
            rw [if_neg (by omega), if_neg (by omega)]
            exact lexB_trans h1 h2
theorem lexB_ntrans : ∀ {a b c : List Int}, lexB a b = false → lexB b c = false → lexB a c = false
  | [], [], [], _, _ => rfl
  | [], [], _ :: _, _, h2 => by cases h2
  | [], _ :: _, _, h1, _ => by cases h1
  | _ :: _, _, [], _, _ => rfl
  | _ :: _, [], _ :: _, _, h2 => by cases h2
  | x :: a, y :: b, z :: c, h1, h2 => by
    simp only [lexB] at h1 h2 ⊢
    by_cases e1 : x < y
    · rw [if_pos e1] at h1; cases h1
    · rw [if_neg e1] at h1
      by_cases e2 : y < z
      · rw [if_pos e2] at h2; cases h2
      · rw [if_neg e2] at h2
        rw [if_neg (by omega)]
        by_cases e3 : z < x
        · rw [if_pos e3]
        · rw [if_neg (by omega)] at h1 h2
          rw [if_neg e3]
          exact lexB_ntrans h1 h2
theorem lexB_total : ∀ {a b : List Int}, lexB a b = false → lexB b a = false → a = b
  | [], [], _, _ => rfl
  | [], _ :: _, h1, _ => by cases h1
  | _ :: _, [], _, h2 => by cases h2
  | x :: a, y :: b, h1, h2 => by
    simp only [lexB] at h1 h2
    by_cases e1 : x < y
    · rw [if_pos e1] at h1; cases h1
    · by_cases e2 : y < x
      · rw [if_pos e2] at h2; cases h2
      · rw [if_neg e1, if_neg e2] at h1
        rw [if_neg e2, if_neg e1] at h2
        rw [lexB_total h1 h2, show x = y by omega]
theorem lexB_asymm {a b : List Int} (h : lexB a b = true) : lexB b a = false := by
  cases e : lexB b a
  · rfl
  · have := lexB_trans h e
    rw [lexB_irrefl] at this; cases this

/-- The rows in order. -/
def sortR (xss : List (List Int)) : List (List Int) := xss.mergeSort fun a b => !lexB b a
theorem sortR_perm (xss : List (List Int)) : (sortR xss).Perm xss := List.mergeSort_perm _ _
theorem sortR_len (xss : List (List Int)) : (sortR xss).length = xss.length := (sortR_perm xss).length_eq
theorem sortR_le (xss : List (List Int)) : (sortR xss).Pairwise (fun a b => lexB b a = false) := by
  have h := List.pairwise_mergeSort (le := fun a b : List Int => !lexB b a) (fun a b c h1 h2 => by
    simp only [Bool.not_eq_true'] at h1 h2 ⊢
    exact lexB_ntrans h2 h1) (fun a b => by
    cases e : lexB b a
    · rfl
    · rw [lexB_asymm e]; rfl) xss
  exact h.imp (fun h => by simpa using h)
theorem sorted_one : ∀ {a b : List (List Int)}, a.Perm b → a.Pairwise (fun x y => lexB y x = false) → b.Pairwise (fun x y => lexB y x = false) → a = b
  | [], b, h, _, _ => (List.Perm.eq_nil h.symm).symm
  | x :: a, [], h, _, _ => absurd h.length_eq (by simp)
  | x :: a, y :: b, h, ha, hb => by
    rw [List.pairwise_cons] at ha hb
    have hx : x ∈ y :: b := h.mem_iff.1 (by simp)
    have hy : y ∈ x :: a := h.mem_iff.2 (by simp)
    have hxy : x = y := by
      have h1 : lexB x y = false := by
        rcases List.mem_cons.1 hx with e | hx
        · rw [e]; exact lexB_irrefl y
        · exact hb.1 x hx
      have h2 : lexB y x = false := by
        rcases List.mem_cons.1 hy with e | hy
        · rw [e]; exact lexB_irrefl x
        · exact ha.1 y hy
      exact lexB_total h1 h2
    subst hxy
    rw [sorted_one ((List.perm_cons x).1 h) ha.2 hb.2]
theorem sortR_of {l xss : List (List Int)} (hp : l.Perm xss) (hs : l.Pairwise (fun a b => lexB b a = false)) : l = sortR xss :=
  sorted_one (hp.trans (sortR_perm xss).symm) hs (sortR_le xss)
theorem sortR_same {xss yss : List (List Int)} (h : xss.Perm yss) : sortR xss = sortR yss := sortR_of ((sortR_perm xss).trans h) (sortR_le xss)

theorem drop_ix {a : List Int} {i : Nat} (h : i < a.length) : a.drop i = ix a i :: a.drop (i + 1) := by
  rw [List.drop_eq_getElem_cons h, ix_lt h]
theorem lexB_lo {a b : List Int} {i : Nat} (ha : i < a.length) (hb : i < b.length) (h : ix a i < ix b i) : lexB (a.drop i) (b.drop i) = true := by
  rw [drop_ix ha, drop_ix hb]; simp only [lexB]; rw [if_pos h]
theorem lexB_hi {a b : List Int} {i : Nat} (ha : i < a.length) (hb : i < b.length) (h : ix b i < ix a i) : lexB (a.drop i) (b.drop i) = false := by
  rw [drop_ix ha, drop_ix hb]; simp only [lexB]; rw [if_neg (by omega), if_pos h]
theorem lexB_eq {a b : List Int} {i : Nat} (ha : i < a.length) (hb : i < b.length) (h : ix a i = ix b i) : lexB (a.drop i) (b.drop i) = lexB (a.drop (i + 1)) (b.drop (i + 1)) := by
  rw [drop_ix ha, drop_ix hb]; simp only [lexB]; rw [if_neg (by omega), if_neg (by omega)]
theorem cmpL_lo {a b : List Int} {i : Nat} (ha : i < a.length) (hb : i < b.length) (h : ix a i < ix b i) : cmpL (a.drop i) (b.drop i) = -1 := by
  rw [drop_ix ha, drop_ix hb]; simp only [cmpL]; rw [if_pos h]
theorem cmpL_hi {a b : List Int} {i : Nat} (ha : i < a.length) (hb : i < b.length) (h : ix b i < ix a i) : cmpL (a.drop i) (b.drop i) = 1 := by
  rw [drop_ix ha, drop_ix hb]; simp only [cmpL]; rw [if_neg (by omega), if_pos h]
theorem cmpL_eq {a b : List Int} {i : Nat} (ha : i < a.length) (hb : i < b.length) (h : ix a i = ix b i) : cmpL (a.drop i) (b.drop i) = cmpL (a.drop (i + 1)) (b.drop (i + 1)) := by
  rw [drop_ix ha, drop_ix hb]; simp only [cmpL]; rw [if_neg (by omega), if_neg (by omega)]
theorem lexB_end {a b : List Int} (h : a.length = b.length) : lexB (a.drop a.length) (b.drop a.length) = false := by
  rw [List.drop_length, h, List.drop_length]; rfl
theorem cmpL_end {a b : List Int} (h : a.length = b.length) : cmpL (a.drop a.length) (b.drop a.length) = 0 := by
  rw [List.drop_length, h, List.drop_length]; rfl
end Go.Proofs.Ytimfggbfapbihaa
