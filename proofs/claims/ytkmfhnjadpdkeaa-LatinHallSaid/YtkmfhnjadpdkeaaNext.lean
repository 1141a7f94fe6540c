/-
  Contract: latin.next adds the first row that goes on. No condition.
-/
import Derived.Test.YtkmfhnjadpdkeaaSlice
import Derived.Test.YtkmfhnjadpdkeaaExtLaw
namespace Go.Proofs.Ytkmfhnjadpdkeaa
open Go.RowKit

/-- Does a number fit by the first i rows of its column? -/
def fitC (n : Nat) (xs : List Int) (col c : Nat) (b : Bool) : Nat → Bool
  | 0 => b
  | i + 1 => fitC n xs col c b i && ix xs (col + i * n) != (c : Int)
theorem fitC_iff {n : Nat} {xs : List Int} {col c : Nat} {b : Bool} : ∀ {r : Nat}, fitC n xs col c b r = true ↔ b = true ∧ ∀ i, i < r → ix xs (col + i * n) ≠ (c : Int)
  | 0 => by simp [fitC]
  | r + 1 => by
    rw [fitC, Bool.and_eq_true, fitC_iff (r := r), bne_iff_ne]
    constructor
    · rintro ⟨⟨h1, h2⟩, h3⟩
      refine ⟨h1, fun i hi => ?_⟩
      by_cases e : i = r
      · subst e; exact h3
      · exact h2 i (by omega)
    · rintro ⟨h1, h2⟩
      exact ⟨⟨h1, fun i hi => h2 i (by omega)⟩, h2 r (by omega)⟩
theorem fit_eq {n r col c : Nat} {xs : List Int} (hlen : xs.length = r * n + col) (hcol : col < n) :
    fitC n xs col c (!mem (xs.drop (r * n)) (c : Int)) r = fitB n xs c := by
  have hn : 0 < n := by omega
  rw [Bool.eq_iff_iff, fitC_iff]
  unfold fitB
  rw [Bool.not_eq_true', Bool.not_eq_true', ← Bool.not_eq_true, ← Bool.not_eq_true, clashRow_iff, mem_iff]
  have hd : dv xs.length n = r := by rw [hlen]; exact place_div hcol
  have hm : md xs.length n = col := by rw [hlen]; exact place_mod hcol
  have hc : ix (xs ++ [(c : Int)]) xs.length = c := by unfold ix; simp
  constructor
  · rintro ⟨h1, h2⟩ ⟨k, hk, e⟩
    obtain ⟨a, b⟩ := clash_iff.1 e
    rw [hc, ix_append hk] at a
    rw [hd, hm] at b
    rcases b with b | b
    · refine h1 (List.mem_iff_getElem.2 ⟨k - r * n, ?_, ?_⟩)
      · rw [List.length_drop]
        have : r * n ≤ k := by rw [b]; unfold dv; exact Nat.div_mul_le_self _ _
        omega
      · have hrk : r * n ≤ k := by rw [b]; unfold dv; exact Nat.div_mul_le_self _ _
        rw [List.getElem_drop]
        rw [ix_lt hk] at a
        have : r * n + (k - r * n) = k := by omega
        simp only [this]
        exact a.symm
    · by_cases hk2 : k < r * n
      · have hq : k = dv k n * n + md k n := by unfold dv md; rw [Nat.mul_comm]; exact (Nat.div_add_mod k n).symm
        have hdk : dv k n < r := by unfold dv; exact (Nat.div_lt_iff_lt_mul hn).2 hk2
        refine h2 (dv k n) hdk ?_
        rw [show col + dv k n * n = k by omega]; exact a.symm
      · have : md k n = k - r * n := by
          have : k = r * n + (k - r * n) := by omega
          rw [this, place_mod (by omega)]; omega
        omega
  · intro h
    refine ⟨fun hx => h ?_, fun i hi he => h ?_⟩
    · obtain ⟨j, hj, e⟩ := List.mem_iff_getElem.1 hx
      rw [List.length_drop] at hj
      rw [List.getElem_drop] at e
      refine ⟨r * n + j, by omega, clash_iff.2 ⟨?_, .inl ?_⟩⟩
      · rw [hc, ix_append (by omega), ix_lt (by omega)]; exact e.symm
      · rw [hd, place_div (by omega)]
    · have hlt : i * n + col < r * n := place_lt' hi hcol
      refine ⟨i * n + col, by omega, clash_iff.2 ⟨?_, .inr ?_⟩⟩
      · rw [hc, ix_append (by omega), Nat.add_comm]; exact he.symm
      · rw [hm, place_mod hcol]

def NextPost (o : Option (List Int)) (v0 : Value) (w : World) (e : Ending) (w' : World) : Prop :=
  match o with
  | some ys => ∃ v, e = .returned (.tuple #[v, .bool true]) ∧ IntsAt w' v ys ∧ Below w.heap.size w w' ∧ ∀ B, B ≤ w.heap.size → FarV B v0 → FarV B v
  | none => e = .returned (.tuple #[.slice none 0 0, .bool false]) ∧ Below w.heap.size w w'

set_option maxRecDepth 100000 in
set_option maxHeartbeats 1000000 in
theorem next_any (n r : Nat) (hn : n ≤ 8) (hr : r < n) : ∀ (l col : Nat) (v : Value) (xs : List Int) (w : World), col + l = n → xs.length = r * n + col → IntsAt w v xs →
    Calls Try.prog 59 #[.int .i64 n, v, .int .i64 col] w (NextPost (goOn n l xs) v w) := by
  have hrn : r * n ≤ 64 := Nat.mul_le_mul (show r ≤ 8 by omega) hn
  intro l
  induction l with
  | zero =>
    intro col v xs w hc hlen h
    obtain rfl : col = n := by omega
    obtain ⟨a, c, hv, _⟩ := id h
    subst hv
    have HI := Lib.hid h
    clear hlen h
    go_enter Try.func59, Try.ntmps59
    go_wp2_with fail
    go_ret2
    exact ⟨_, rfl, HI.out, Below.refl _ _, fun B _ h => h⟩
  | succ l ih =>
    intro col v xs w hc hlen h
    have IH := Lib.hid ih; clear ih
    have HI := Lib.hid h
    have HLen := Lib.hid hlen
    obtain ⟨b0, hb0⟩ : ∃ b0, b0 = r * n := ⟨_, rfl⟩
    have HB0 := Lib.hid hb0
    rw [← hb0] at hrn hlen
    have hbeg : ((xs.length : Nat) : Int) - (col : Int) = (b0 : Int) := by omega
    have hl64 : xs.length ≤ 72 := by omega
    have hlb : b0 ≤ xs.length := by omega
    obtain ⟨a, c, rfl, h1, h2, _, h3⟩ := h
    have HX := Lib.hid h3; clear h3
    have hcn : ¬ ((col : Int) == (n : Int)) = true := by simp; omega
    have hcn' : ((col : Int) == (n : Int)) = false := by simpa using hcn
    clear hlen hb0 hcn
    rw [goOn_succ]
    go_enter Try.func59, Try.ntmps59
    go_wp2_with fail
    clear hcn' hbeg
    go_loopw [23] (fun s wr => ∃ k : Nat, k ≤ n ∧ s = .int .i64 k ∧ fsome (goF n l xs) k = none ∧ Below w.heap.size w wr) (fun s _ => n - (intOf s).toNat)
    case atStart => exact ⟨0, by omega, rfl, rfl, Below.refl _ _⟩
    case round =>
      obtain ⟨k, hk, rfl, hnone, hb⟩ := hrel
      have HN := Lib.hid hnone; have HB := Lib.hid hb
      clear hnone hb
      by_cases hlt : k < n
      · have hsl := fun W => run_tail W a xs.length c b0 hlb
        have HIr := Lib.hid (HI.out.below HB.out)
        have HS := Lib.hid (intsAt_sliv HIr.out (l := b0) (h := xs.length) hlb (Nat.le_refl _))
        rw [List.take_length] at HS
        go_wp2_with fail
        refine (contains_any k _ _ _ HS.out).mono ?_
        rintro e w' ⟨rfl, rfl⟩
        clear hsl
        go_wp2_with fail
        generalize hm : mem (xs.drop b0) (k : Int) = m
        have HM := Lib.hid hm; clear hm
        go_loop [10, 11] (fun sf sa => ∃ i : Nat, i ≤ r ∧ sa = .int .i64 ((col : Int) + ((i * n : Nat) : Int)) ∧ sf = .bool (fitC n xs col k (!m) i)) (fun _ sa => b0 + n - (intOf sa).toNat)
        case atStart => exact ⟨0, by omega, by simp, rfl⟩
        case round =>
          obtain ⟨i, hi, rfl, rfl⟩ := hrel
          have HF : Hid (fitC n xs col k (!m) (i + 1) = (fitC n xs col k (!m) i && ix xs (col + i * n) != (k : Int))) := rfl
          have hin : i * n ≤ b0 := by rw [HB0.out]; exact Nat.mul_le_mul hi (Nat.le_refl n)
          by_cases hir : i < r
          · have hin1 : i * n + col < b0 := by rw [HB0.out]; exact place_lt' hir (by omega)
            have hplace : col + i * n < xs.length := by omega
            obtain ⟨b, o, rfl, hbb, hcc⟩ := HX.out _ hplace
            have hcell := hcc _ hplace
            rw [← (bcell HB.out).1 _ _ hbb] at hcell
            clear hcc
            have hi1 : (i + 1) * n = i * n + n := by rw [Nat.add_mul, Nat.one_mul]
            have Hi1 := Lib.hid hi1; clear hi1
            generalize i * n = q at *
            cases e1 : fitC n xs col k (!m) i
            · rw [e1] at HF
              go_wp2_with fail
              go_round
              case rel => exact ⟨i + 1, by omega, by rw [Hi1.out]; go_num, by rw [HF.out]; rfl⟩
              case measure => simp [intOf]; omega
            · rw [e1] at HF
              cases e2 : (ix xs (col + q) != (k : Int))
              all_goals
                rw [e2] at HF
                go_wp2_with fail
                go_round
                case rel => exact ⟨i + 1, by omega, by rw [Hi1.out]; go_num, by rw [HF.out]; rfl⟩
                case measure => simp [intOf]; omega
          · obtain rfl : i = r := by omega
            have hge : ¬ (((col : Int) + ((i * n : Nat) : Int)) < (b0 : Int)) := by rw [HB0.out]; omega
            have Hfit : Hid (fitC n xs col k (!m) i = fitB n xs k) := by
              show _ = _
              rw [← HM.out, HB0.out]; exact fit_eq HLen.out (by omega)
            rw [Hfit.out]
            cases ef : fitB n xs k
            · have Hgo : Hid (goF n l xs k = none) := by show _ = _; unfold goF; rw [ef]; rfl
              clear ef
              go_wp2_with fail
              go_roundw
              case rel => exact ⟨k + 1, by omega, by go_num, by rw [fsome_next HN.out, Hgo.out], HB.out⟩
              case measure => simp [intOf]; omega
            · have Hgo : Hid (goF n l xs k = goOn n l (xs ++ [(k : Int)])) := by show _ = _; unfold goF; rw [ef]; rfl
              clear ef
              have hf3 := fun W => run_full W a xs.length c HI.out.capLe
              have HI2 := Lib.hid (HIr.out.below (below_box wr (.cells #[.int .i64 k] 3)))
              have Hne : Hid ((wr.alloc (.cells #[.int .i64 k] 3)).cell? ⟨wr.heap.size, 0, none⟩ = some (.int .i64 k)) := World.cell?_alloc_new wr #[.int .i64 k] 3 0
              have hlt9 : xs.length < 1000000000 := by omega
              go_wp2_with (at_builtin; refine app_full rfl _ _ rfl rfl HI2.out wr.heap.size k rfl Hne.out hlt9 ?_; intro v' w1 hown1 hgrow)
              have hB1 : Below wr.heap.size wr w1 := by
                have := below_grown (v := .slice none 0 0) hgrow (B := wr.heap.size) (by intro k hk; cases hk) (by simp)
                exact (below_box wr _).trans this
              have HB1 := Lib.hid (belowTrans HB.out hB1)
              have HC : Hid (Calls Try.prog 59 #[.int .i64 n, v', .int .i64 ((col : Int) + 1)] w1 (NextPost (goOn n l (xs ++ [(k : Int)])) v' w1)) := by
                have := IH.out (col + 1) v' (xs ++ [(k : Int)]) w1 (by omega) (by rw [List.length_append, HLen.out]; rfl) (hown1.intsAt (by rw [List.length_append]; simp; omega))
                rw [Int.natCast_add] at this
                exact this
              have HFar : Hid (∀ B, B ≤ w.heap.size → FarV B v') := fun B hB => hown1.far (by have := HB.out.size; simp; omega)
              have HZ := hB1.size
              clear hown1 hgrow hB1 hf3
              cases eg : goOn n l (xs ++ [(k : Int)]) with
              | none =>
                rw [eg] at HC Hgo
                go_wp2_with fail
                refine (HC.out).mono ?_
                intro e w2 hp
                obtain ⟨rfl, hb2⟩ := hp
                have HB2 := Lib.hid (belowTrans HB1.out hb2); clear hb2
                go_wp2_with fail
                go_roundw
                case rel => exact ⟨k + 1, by omega, by go_num, by rw [fsome_next HN.out, Hgo.out], HB2.out⟩
                case measure => simp [intOf]; omega
              | some ys =>
                rw [eg] at HC Hgo
                go_wp2_with fail
                refine (HC.out).mono ?_
                intro e w2 hp
                obtain ⟨v2, rfl, hI2, hb2, hfar⟩ := hp
                have HB2 := Lib.hid (belowTrans HB1.out hb2); have HI3 := Lib.hid hI2; have HFar2 := Lib.hid hfar; clear hb2 hI2 hfar
                go_wp2_with fail
                go_ret2
                rw [fsome_hit HN.out Hgo.out hlt]
                exact ⟨_, rfl, HI3.out, HB2.out, fun B hB _ => HFar2.out B (by have := HB1.out.size; omega) (HFar.out B hB)⟩
      · obtain rfl : k = n := by omega
        go_wp2_with fail
        go_ret2
        rw [HN.out]
        exact ⟨rfl, HB.out⟩

end Go.Proofs.Ytkmfhnjadpdkeaa
