/-
  Contract: the reference's cut: can the rest of the points be cut? No condition.
-/
import Derived.Test.YtkmcmahpfhlkhaaParLaw
import Derived.Test.YtkmcmahpfhlkhaaLies
import Derived.Test.YtkmcmahpfhlkhaaDesF
namespace Go.Proofs.Ytkmcmahpfhlkhaa
open Go.RowKit

/-- All but the blocks bd and bc is as it was. -/
structure Keep2 (bd bc : Nat) (w w' : World) : Prop where
  os : w'.os = w.os
  tape : w'.tape = w.tape
  output : w'.output = w.output
  size : w.heap.size ≤ w'.heap.size
  blk : ∀ b, b < w.heap.size → b ≠ bd → b ≠ bc → w'.heap[b]? = w.heap[b]?
theorem Keep2.refl (bd bc : Nat) (w : World) : Keep2 bd bc w w := ⟨rfl, rfl, rfl, Nat.le_refl _, fun _ _ _ _ => rfl⟩
theorem Keep2.trans {bd bc : Nat} {a b c : World} (h : Keep2 bd bc a b) (k : Keep2 bd bc b c) : Keep2 bd bc a c :=
  ⟨k.os.trans h.os, k.tape.trans h.tape, k.output.trans h.output, Nat.le_trans h.size k.size, fun x h1 h2 h3 => (k.blk x (Nat.lt_of_lt_of_le h1 h.size) h2 h3).trans (h.blk x h1 h2 h3)⟩
theorem Keep2.of {bd bc : Nat} {w w' : World} (h : Below w.heap.size w w') : Keep2 bd bc w w' := ⟨h.os, h.tape, h.output, h.size, fun b hb _ _ => h.block b hb⟩
theorem Keep2.set {bd bc : Nat} (w : World) {p : Addr} (hp : p.block = bd ∨ p.block = bc) (v : Value) : Keep2 bd bc w (w.setCell p v) := by
  have hb := (Below.refl 0 w).setCell (p := p) (Nat.zero_le _) v
  refine ⟨hb.os, hb.tape, hb.output, hb.size, fun b _ h1 h2 => Below.heap_setCell w p v b ?_⟩
  rcases hp with hp | hp
  · rw [hp]; exact h1
  · rw [hp]; exact h2
theorem Keep2.below {bd bc : Nat} {W0 w w' : World} (h : Below W0.heap.size W0 w) (k : Keep2 bd bc w w') (h1 : W0.heap.size ≤ bd) (h2 : W0.heap.size ≤ bc) : Below W0.heap.size W0 w' :=
  h.trans ⟨k.os, k.tape, k.output, k.size, fun b hb => k.blk b (Nat.lt_of_lt_of_le hb h.size) (by omega) (by omega)⟩
theorem Keep2.arr {bd bc : Nat} {w w' : World} (k : Keep2 bd bc w w') {b n : Nat} {f : Nat → Value} (h : Arr w b n f) (h1 : b ≠ bd) (h2 : b ≠ bc) : Arr w' b n f :=
  ⟨Nat.lt_of_lt_of_le h.1 k.size, fun i hi => ⟨by rw [World.cell?_of_block (k.blk b h.1 h1 h2)]; exact h.cell hi, by rw [World.frozen?_of_block (k.blk b h.1 h1 h2)]; exact h.free hi⟩⟩
def fcell (g : Nat → Bool) (j : Nat) (v : Bool) : Nat → Bool := fun i => if i = j then v else g i
theorem Flags.putB {w : World} {b n : Nat} {f : Nat → Bool} (h : Flags w b n f) {j : Nat} (hj : j < n) (v : Bool) : Flags (w.setCell ⟨b, j, none⟩ (.bool v)) b n (fcell f j v) :=
  (Arr.set h hj _).congr fun i _ => by
    unfold fcell
    by_cases e : i = j
    · rw [if_pos e, if_pos e]
    · rw [if_neg e, if_neg e]
/-- How many points below n lie in S. -/
def cntS (S : Nat) : Nat → Nat
  | 0 => 0
  | n + 1 => cntS S n + if tb S n then 1 else 0
theorem cntS_le {S T : Nat} : ∀ {n : Nat}, (∀ x, x < n → tb S x = true → tb T x = true) → cntS S n ≤ cntS T n
  | 0, _ => Nat.le_refl _
  | n + 1, h => by
    have := cntS_le (n := n) fun x hx => h x (by omega)
    rw [cntS, cntS]
    cases e : tb S n
    · simp; omega
    · rw [h n (by omega) e]; omega
theorem cntS_lt {S T : Nat} : ∀ {n x : Nat}, x < n → tb T x = true → tb S x = false → (∀ x, x < n → tb S x = true → tb T x = true) → cntS S n < cntS T n
  | 0, x, h, _, _, _ => by omega
  | n + 1, x, hx, h1, h2, h => by
    have hle := cntS_le (n := n) fun x hx => h x (by omega)
    rw [cntS, cntS]
    by_cases e : x = n
    · subst e; rw [h1, h2]; simp; omega
    · have := cntS_lt (n := n) (show x < n by omega) h1 h2 fun x hx => h x (by omega)
      cases e2 : tb S n
      · simp; omega
      · rw [h n (by omega) e2]; omega
end Go.Proofs.Ytkmcmahpfhlkhaa
