/-
  Contract: the reference's NextSet. No condition.
-/
import Derived.Test.YtkmcmahpfhlkhaaNextSet
namespace Go.Proofs.Ytkmcmahpfhlkhaa
open Go.RowKit

/-- What NextSet does: the next set, in place; or nothing. -/
def NextSP (n : Nat) (P : List Nat) (v : Value) (w : World) (e : Ending) (w' : World) : Prop :=
  match nextL n P with
  | some Q => e = .returned (.bool true) ∧ SetAt w' v Q ∧ Q.length = P.length ∧ w.grownBy w' v.ownBlock
  | none => e = .returned (.bool false) ∧ w = w'
theorem nextSP_none {n : Nat} {P : List Nat} {v : Value} {w : World} (h : nextL n P = none) : NextSP n P v w (.returned (.bool false)) w := by
  unfold NextSP; rw [h]; exact ⟨rfl, rfl⟩
theorem nextSP_some {n : Nat} {P Q : List Nat} {v : Value} {w w' : World} (h : nextL n P = some Q) (h1 : SetAt w' v Q) (h2 : Q.length = P.length) (h3 : w.grownBy w' v.ownBlock) : NextSP n P v w (.returned (.bool true)) w' := by
  unfold NextSP; rw [h]; exact ⟨rfl, h1, h2, h3⟩

/-- The cells while the tail is written. -/
def tailF (P : List Nat) (i j q : Nat) : Int := if q < i then (nx P q : Int) else if q < j then ((nx P i + 1 + (q - i) : Nat) : Int) else (nx P q : Int)

theorem grownBy_set (W : World) (a : Addr) (v : Value) : W.grownBy (W.setCell a v) (some a.block) :=
  ⟨rfl, rfl, rfl, by simp [World.setCell], fun k _ hk => Below.heap_setCell _ _ _ k (fun e => hk (by rw [e]))⟩
theorem grownBy_more {A B C : World} {row : Option Nat} (h : A.grownBy B row) (k : B.grownBy C row) : A.grownBy C row :=
  ⟨k.os.trans h.os, k.tape.trans h.tape, k.output.trans h.output, Nat.le_trans h.size k.size, fun j hj hr => (k.block j (Nat.lt_of_lt_of_le hj h.size) hr).trans (h.block j hj hr)⟩

theorem nextSet_nil (n : Nat) (w : World) : Calls Try.prog 41 #[.slice none 0 0, .int .i64 (n : Nat)] w (NextSP n [] (.slice none 0 0) w) := by
  go_enter Try.func41, Try.ntmps41
  go_wp2
  go_loop [6] (fun s => s = .int .i64 (-1)) (fun _ => 0)
  case atStart => rfl
  case round =>
    subst hrel
    go_wp2
    go_ret
    exact nextSP_none rfl

set_option maxRecDepth 100000 in
set_option maxHeartbeats 1000000 in
theorem nextSet_any (n : Nat) (P : List Nat) (v : Value) (w : World) (hn : n ≤ 40) (hP : P.length ≤ 4) (hlt : ∀ x ∈ P, x < n) (h : SetAt w v P) :
    Calls Try.prog 41 #[v, .int .i64 (n : Nat)] w (NextSP n P v w) := by
  rcases h with ⟨rfl, rfl⟩ | ⟨g, c, rfl, h1, h2, h3⟩
  · exact nextSet_nil n w
  · have HA := Lib.hid h3
    have HX : Hid (∀ i, i < P.length → nx P i < n) := fun i hi => by
      have e : nx P i = P[i] := by unfold nx; simp [hi]
      rw [e]; exact hlt _ (List.getElem_mem hi)
    have hg := h3.lt
    clear h3 hlt
    go_enter Try.func41, Try.ntmps41
    go_wp2
    go_loop [6] (fun s => ∃ m : Nat, m ≤ P.length ∧ s = .int .i64 ((m : Int) - 1) ∧ ∀ j, m ≤ j → j < P.length → ¬ nx P j + (P.length - j) < n) (fun s => (intOf s + 1).toNat)
    case atStart => exact ⟨P.length, Nat.le_refl _, rfl, fun j h1 h2 => by omega⟩
    case round =>
      obtain ⟨m, hm, rfl, hno⟩ := hrel
      have HNo := Lib.hid hno
      clear hno
      cases m with
      | zero =>
        go_wp2
        go_ret
        exact nextSP_none (nextL_none fun i hi => HNo.out i (Nat.zero_le _) hi)
      | succ i =>
        have hcell := HA.out.cell (show i < P.length by omega)
        have hfr := HA.out.free (show i < P.length by omega)
        have hx := HX.out i (by omega)
        have ei : ((i + 1 : Nat) : Int) - 1 = (i : Int) := by omega
        rw [ei]
        clear ei
        by_cases ht : nx P i + (P.length - i) < n
        · have HT := Lib.hid ht
          have d1 : decide (((nx P i : Nat) : Int) < (n : Int) - (P.length : Int) + (i : Int)) = true := by simp; omega
          have HN := Lib.hid (nextL_hit (P := P) (i := i) (by omega) ht (fun j h1 h2 => HNo.out j (by omega) h2))
          have hi0 : (0 : Int) ≤ (i : Int) := by omega
          have HS0 : Hid (∀ x : Int, x = (nx P i : Int) + 1 → Nums (w.setCell ⟨g, i, none⟩ (.int .i64 x)) g P.length (tailF P i (i + 1))) := fun x hx => by
            refine (Nums.set HA.out (show i < P.length by omega) x).congr fun q hq => ?_
            show Value.int .i64 (if q = i then x else ((nx P q : Nat) : Int)) = Value.int .i64 (tailF P i (i + 1) q)
            unfold tailF
            by_cases e : q = i
            · subst e
              rw [if_pos rfl, if_neg (by omega), if_pos (by omega)]
              congr 1; omega
            · rw [if_neg e]
              by_cases e2 : q < i
              · rw [if_pos e2]
              · rw [if_neg e2, if_neg (by omega)]
          clear ht
          go_wp2
          clear d1 hcell hfr
          go_loopw [7] (fun s wr => ∃ j : Nat, i < j ∧ j ≤ P.length ∧ s = .int .i64 (j : Nat) ∧ Nums wr g P.length (tailF P i j) ∧ w.grownBy wr (some g)) (fun s _ => P.length - (intOf s).toNat)
          case atStart => exact ⟨i + 1, by omega, hm, by go_num, HS0.out _ (by go_num), grownBy_set _ _ _⟩
          case round =>
            obtain ⟨j, hj, hj2, rfl, hA, hG⟩ := hrel
            have HA2 := Lib.hid hA; have HG := Lib.hid hG
            clear hA hG
            by_cases hlt : j < P.length
            · have ce := HA2.out.cell (show j - 1 < P.length by omega)
              have fr := HA2.out.free hlt
              have cj := HA2.out.cell hlt
              have hx : (nx P i) + (j - i) < n := by have := HT.out; omega
              have ev : tailF P i j (j - 1) = ((nx P i + (j - i) : Nat) : Int) := by
                unfold tailF
                by_cases e2 : j - 1 < i
                · omega
                · rw [if_neg e2, if_pos (by omega), show nx P i + 1 + (j - 1 - i) = nx P i + (j - i) by omega]
              rw [ev] at ce
              clear ev
              have HS1 : Hid (∀ x : Int, x = ((nx P i + (j - i) : Nat) : Int) + 1 → Nums (wr.setCell ⟨g, j, none⟩ (.int .i64 x)) g P.length (tailF P i (j + 1))) := fun x hx => by
                refine (Nums.set HA2.out hlt x).congr fun q hq => ?_
                show Value.int .i64 (if q = j then x else tailF P i j q) = Value.int .i64 (tailF P i (j + 1) q)
                unfold tailF
                by_cases e : q = j
                · subst e
                  rw [if_pos rfl, if_neg (by omega), if_pos (by omega)]
                  congr 1; omega
                · rw [if_neg e]
                  by_cases e2 : q < i
                  · rw [if_pos e2, if_pos e2]
                  · rw [if_neg e2, if_neg e2]
                    by_cases e3 : q < j
                    · rw [if_pos e3, if_pos (by omega)]
                    · rw [if_neg e3, if_neg (by omega)]
              obtain ⟨y, hy⟩ : ∃ y, y = nx P i + (j - i) := ⟨_, rfl⟩
              rw [← hy] at ce HS1 hx
              have i1 : ((j : Int) - 1).toNat = j - 1 := by omega
              have i2 : (0 : Int) ≤ (j : Int) - 1 := by omega
              have i3 : (j : Int) - 1 < (P.length : Int) := by omega
              have i4 : IntKind.i64.wrap ((j : Int) - 1) = (j : Int) - 1 := IntWalk.i64_in _ (by omega)
              have i5 : (j : Int) < (P.length : Int) := by omega
              clear hy
              generalize tailF P i j j = cjv at *
              go_wp2
              go_roundw
              case rel => exact ⟨j + 1, by omega, by omega, by go_num, HS1.out _ (by go_num), grownBy_more HG.out (grownBy_set _ _ _)⟩
              case measure => simp [intOf]; omega
            · obtain rfl : j = P.length := by omega
              go_wp2
              go_ret
              have hl : (P.take i ++ List.range' (nx P i + 1) (P.length - i)).length = P.length := by simp; omega
              refine nextSP_some HN.out (.inr ⟨g, c, by rw [hl], by rw [hl]; exact h1, h2, ?_⟩) hl HG.out
              rw [hl]
              refine HA2.out.congr fun q hq => ?_
              show Value.int .i64 (tailF P i P.length q) = Value.int .i64 ((nx _ q : Nat) : Int)
              rw [nx_next (by omega) q hq]
              unfold tailF
              by_cases e2 : q < i
              · rw [if_pos e2, if_pos e2]
              · rw [if_neg e2, if_neg e2, if_pos hq]
        · have d1 : decide (((nx P i : Nat) : Int) < (n : Int) - (P.length : Int) + (i : Int)) = false := by simp; omega
          go_wp2
          go_round
          case rel => exact ⟨i, by omega, by go_num, fun j h1 h2 => by
            by_cases e : j = i
            · subst e; exact ht
            · exact HNo.out j (by omega) h2⟩
          case measure => simp [intOf]
end Go.Proofs.Ytkmcmahpfhlkhaa
