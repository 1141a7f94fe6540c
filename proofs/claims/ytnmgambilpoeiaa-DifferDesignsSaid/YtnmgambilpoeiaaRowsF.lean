/-
  Contracts: the library's slices.IndexFunc, ContainsFunc over rows, at a predicate that is quiet; design.Level's predicate. No condition.
-/
import Derived.Test.YtnmgambilpoeiaaRows
import Derived.Test.YtnmgambilpoeiaaSubs
namespace Go.Proofs.Ytnmgambilpoeiaa
open Go.RowKit

/-- The first below n; -1: there is none. -/
def firstN (f : Nat → Bool) : Nat → Int
  | 0 => -1
  | k + 1 => if firstN f k = -1 then (if f k then (k : Int) else -1) else firstN f k
theorem firstN_no {f : Nat → Bool} {k : Nat} (h : firstN f k = -1) (e : f k = false) : firstN f (k + 1) = -1 := by rw [firstN, if_pos h, e]; rfl
theorem firstN_yes {f : Nat → Bool} {k : Nat} (h : firstN f k = -1) (e : f k = true) : ∀ {n : Nat}, k < n → firstN f n = k
  | 0, h => by omega
  | n + 1, hk => by
    rw [firstN]
    by_cases hn : k = n
    · subst hn; rw [if_pos h, e]; rfl
    · have := firstN_yes h e (n := n) (by omega)
      rw [if_neg (by omega), this]
/-- Is there one? -/
def someN (f : Nat → Bool) (n : Nat) : Bool := decide (0 ≤ firstN f n)
theorem firstN_none {f : Nat → Bool} : ∀ {n : Nat}, firstN f n = -1 ↔ ∀ k, k < n → f k = false
  | 0 => by simp [firstN]
  | n + 1 => by
    rw [firstN]
    constructor
    · intro h k hk
      split at h
      · rename_i h1
        split at h
        · omega
        · rename_i h2
          by_cases e : k = n
          · subst e; simpa using h2
          · exact firstN_none.1 h1 k (by omega)
      · rename_i h1; exact absurd h h1
    · intro h
      rw [if_pos (firstN_none.2 fun k hk => h k (by omega)), h n (by omega)]; rfl
theorem firstN_val (f : Nat → Bool) : ∀ n, firstN f n = -1 ∨ 0 ≤ firstN f n
  | 0 => .inl rfl
  | n + 1 => by
    rw [firstN]
    have := firstN_val f n
    split
    · split
      · exact .inr (by omega)
      · exact .inl rfl
    · exact this
theorem someN_false {f : Nat → Bool} {n : Nat} : someN f n = false ↔ ∀ k, k < n → f k = false := by
  unfold someN
  rw [decide_eq_false_iff_not, ← firstN_none]
  have := firstN_val f n
  omega

set_option maxHeartbeats 400000 in
theorem indexRows_any (g : FuncId) (hg : ∀ (args : Array Value) (w : World), (callFunc g args).run Try.prog w = .ok (.enter g args) w) (q : Value) (p : Nat → Bool) (a : Option Addr) (c n : Nat) (V : Nat → Value) (w : World)
    (h : ∀ i, i < n → ∃ b o, a = some ⟨b, o, none⟩ ∧ b < w.heap.size ∧ ∀ j, j < n → w.cell? ⟨b, o + j, none⟩ = some (V j)) (hV : ∀ i, i < n → (V i).oneCell' = true) (hn : n ≤ 1000000000)
    (hp : ∀ i, i < n → Calls Try.prog g #[V i, q] w fun e w' => e = .returned (.bool (p i)) ∧ w = w') :
    Calls Try.prog 58 #[.slice a n c, .func (.func g) #[] #[q]] w fun e w' => e = .returned (.int .i64 (firstN p n)) ∧ w = w' := by
  have Hp := Lib.hid hp; clear hp
  have HX := Lib.hid h; clear h
  have HV := Lib.hid hV; clear hV
  go_enter Try.func58, Try.ntmps58
  go_wp2
  go_loop [8] (fun i => ∃ k : Nat, k ≤ n ∧ i = .int .i64 k ∧ firstN p k = -1) (fun i => n - (intOf i).toNat)
  case atStart => exact ⟨0, by omega, rfl, rfl⟩
  case round =>
    obtain ⟨k, hk, rfl, hn2⟩ := hrel
    have Hn := Lib.hid hn2; clear hn2
    by_cases hlt : k < n
    · obtain ⟨b, o, rfl, hb, hc⟩ := HX.out k hlt
      have hcell := hc k hlt
      clear hc
      have hone := HV.out k hlt
      have HC := Lib.hid (Hp.out k hlt)
      obtain ⟨u, hu⟩ : ∃ u, u = V k := ⟨_, rfl⟩
      rw [← hu] at hcell hone HC
      clear hu
      cases ep : p k
      all_goals
        have Hep := Lib.hid ep
        rw [ep] at HC
        clear ep
        go_wp2_with (refine (HC.out).mono ?_; rintro e w' ⟨rfl, rfl⟩)
      · go_round
        case rel => exact ⟨k + 1, by omega, by go_num, firstN_no Hn.out Hep.out⟩
        case measure => simp [intOf]; omega
      · go_ret
        exact ⟨ret_int (firstN_yes Hn.out Hep.out hlt).symm, rfl⟩
    · obtain rfl : k = n := by omega
      go_wp2
      go_ret
      exact ⟨ret_int Hn.out.symm, rfl⟩

theorem containsRows_any (g : FuncId) (hg : ∀ (args : Array Value) (w : World), (callFunc g args).run Try.prog w = .ok (.enter g args) w) (q : Value) (p : Nat → Bool) (a : Option Addr) (c n : Nat) (V : Nat → Value) (w : World)
    (h : ∀ i, i < n → ∃ b o, a = some ⟨b, o, none⟩ ∧ b < w.heap.size ∧ ∀ j, j < n → w.cell? ⟨b, o + j, none⟩ = some (V j)) (hV : ∀ i, i < n → (V i).oneCell' = true) (hn : n ≤ 1000000000)
    (hp : ∀ i, i < n → Calls Try.prog g #[V i, q] w fun e w' => e = .returned (.bool (p i)) ∧ w = w') :
    Calls Try.prog 48 #[.slice a n c, .func (.func g) #[] #[q]] w fun e w' => e = .returned (.bool (someN p n)) ∧ w = w' := by
  have Hc := Lib.hid (indexRows_any g hg q p a c n V w h hV hn hp)
  clear hp h hg hV
  have He : Hid (decide (0 ≤ firstN p n) = someN p n) := rfl
  go_enter Try.func48, Try.ntmps48
  go_wp2_with (go_at_call 58; refine (Hc.out).mono ?_; rintro e w' ⟨rfl, rfl⟩)
  go_ret
  exact ⟨ret_bool He.out, rfl⟩

/-- Has a block another size? -/
def unlikeK (xss : List (List Int)) (i : Nat) : Bool := (((rx xss i).length : Int)) != ((rx xss 0).length : Int)
theorem level1_any (a : Option Addr) (n c k b : Nat) (w : World) (hc : w.cell? ⟨b, 0, none⟩ = some (.int .i64 (k : Nat))) :
    Calls Try.prog 49 #[.slice a n c, .pointer (some ⟨b, 0, none⟩)] w fun e w' => e = .returned (.bool ((n : Int) != (k : Int))) ∧ w = w' := by
  go_enter Try.func49, Try.ntmps49
  go_wp2
  go_ret
  exact ⟨rfl, rfl⟩
theorem enters_level (args : Array Value) (w : World) : (callFunc 49 args).run Try.prog w = .ok (.enter 49 args) w := by kernel_rfl
theorem uni_some (xss : List (List Int)) : uniB xss = !someN (unlikeK xss) xss.length := by
  rw [Bool.eq_iff_iff]
  have e : ((!someN (unlikeK xss) xss.length) = true) ↔ someN (unlikeK xss) xss.length = false := by simp
  rw [e, someN_false]
  unfold uniB unlikeK
  rw [List.all_eq_true]
  constructor
  · intro h k hk
    have := h _ (rx_mem hk)
    simp at this ⊢; omega
  · intro h b hb
    obtain ⟨k, hk, rfl⟩ := List.getElem_of_mem hb
    have := h k hk
    rw [rx_lt hk] at this
    simp at this ⊢; omega
end Go.Proofs.Ytnmgambilpoeiaa
