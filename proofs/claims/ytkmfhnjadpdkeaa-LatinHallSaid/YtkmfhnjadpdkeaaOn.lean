/-
  Contract: the reference's on (cell by cell). No condition.
-/
import Derived.Test.YtkmfhnjadpdkeaaExtLaw
import Derived.Test.YtkmfhnjadpdkeaaSlice
import Derived.Test.YtkmfhnjadpdkeaaTab
namespace Go.Proofs.Ytkmfhnjadpdkeaa
open Go.RowKit

theorem fitB_clash {n : Nat} {xs : List Int} {x k : Nat} (hk : k < xs.length) : clash n (xs ++ [(x : Int)]) xs.length k = ((x : Int) == ix xs k && (dv xs.length n == dv k n || (xs.length : Int) % n == (k : Int) % n)) := by
  unfold clash
  rw [ix_append hk]
  have hc : ix (xs ++ [(x : Int)]) xs.length = x := by unfold ix; simp
  rw [hc]
/-- Does a number clash with one of the first k? -/
def clX (n : Nat) (xs : List Int) (x k : Nat) : Bool := clashRow n (xs ++ [(x : Int)]) xs.length k
theorem on_way {n : Nat} {xs : List Int} {x k : Nat} (hk : k < xs.length) :
    ((ix xs k != (x : Int)) = true ∧ clash n (xs ++ [(x : Int)]) xs.length k = false) ∨
    ((ix xs k != (x : Int)) = false ∧ ((dv k n : Int) != (dv xs.length n : Int)) = false ∧ clash n (xs ++ [(x : Int)]) xs.length k = true) ∨
    ((ix xs k != (x : Int)) = false ∧ ((dv k n : Int) != (dv xs.length n : Int)) = true ∧ ((k : Int) % n != (xs.length : Int) % n) = false ∧ clash n (xs ++ [(x : Int)]) xs.length k = true) ∨
    ((ix xs k != (x : Int)) = false ∧ ((dv k n : Int) != (dv xs.length n : Int)) = true ∧ ((k : Int) % n != (xs.length : Int) % n) = true ∧ clash n (xs ++ [(x : Int)]) xs.length k = false) := by
  rw [fitB_clash hk]
  have e1 : ((x : Int) == ix xs k) = !(ix xs k != (x : Int)) := by rw [Bool.eq_iff_iff]; simp; omega
  have e2 : (dv xs.length n == dv k n) = !((dv k n : Int) != (dv xs.length n : Int)) := by rw [Bool.eq_iff_iff]; simp; omega
  have e3 : ((xs.length : Int) % n == (k : Int) % n) = !((k : Int) % n != (xs.length : Int) % n) := by rw [Bool.eq_iff_iff]; simp; omega
  rw [e1, e2, e3]
  cases (ix xs k != (x : Int)) <;> cases ((dv k n : Int) != (dv xs.length n : Int)) <;> cases ((k : Int) % n != (xs.length : Int) % n) <;> simp
theorem clX_done {n : Nat} {xs : List Int} {x k : Nat} (hk : k ≤ xs.length) (h : k = xs.length ∨ clX n xs x k = true) : fitB n xs x = !clX n xs x k := by
  unfold fitB
  rcases h with rfl | h
  · rfl
  · rw [h]
    obtain ⟨j, hj, e⟩ := clashRow_iff.1 h
    rw [clashRow_iff.2 ⟨j, by omega, e⟩]

/-- The first cells of a block hold these. -/
def Agree (N : Nat) (xs : List Int) (w : World) (b : Nat) : Prop := ∃ f, Nums w b N f ∧ ∀ k, k < xs.length → f k = ix xs k
def OnPost (o : Option (List Int)) (N : Nat) (xs : List Int) (b : Nat) (w : World) (e : Ending) (w' : World) : Prop :=
  Below b w w' ∧ match o with
  | some ys => e = .returned (.bool true) ∧ Agree N ys w' b
  | none => e = .returned (.bool false) ∧ Agree N xs w' b
theorem Agree.put {N : Nat} {xs : List Int} {w : World} {b : Nat} (h : Agree N xs w b) (x : Int) (hl : xs.length < N) : Agree N (xs ++ [x]) (w.setCell ⟨b, xs.length, none⟩ (.int .i64 x)) b := by
  obtain ⟨f, h1, h2⟩ := h
  refine ⟨_, h1.set hl x, fun k hk => ?_⟩
  rw [List.length_append] at hk
  by_cases e : k = xs.length
  · subst e; show (if _ then _ else _) = _; rw [if_pos rfl]; unfold ix; simp
  · show (if _ then _ else _) = _
    rw [if_neg e, ix_append (by simp at hk; omega), h2 k (by simp at hk; omega)]
theorem Agree.less {N : Nat} {xs ys : List Int} {w : World} {b : Nat} (h : Agree N (xs ++ ys) w b) : Agree N xs w b := by
  obtain ⟨f, h1, h2⟩ := h
  exact ⟨f, h1, fun k hk => by rw [h2 k (by rw [List.length_append]; omega), ix_append hk]⟩
theorem Agree.drewN {N : Nat} {xs : List Int} {w : World} {b : Nat} (h : Agree N xs w b) (n : Nat) : Agree N xs (w.drewN n) b := h
theorem below_drewN' {b : Nat} {w w' : World} (h : Below b w w') (n : Nat) : Below b w (w'.drewN n) := below_drewN h n

set_option maxRecDepth 100000 in
set_option maxHeartbeats 1000000 in
theorem on_any (n b : Nat) (h1 : 1 ≤ n) (hn : n ≤ 8) : ∀ (l : Nat) (xs : List Int) (w : World), xs.length + l = n * n → Agree (n * n) xs w b →
    Calls Try.prog 60 #[.int .i64 n, .slice (some ⟨b, 0, none⟩) (n * n) (n * n), .int .i64 xs.length] w (OnPost (goOn n l xs) (n * n) xs b w) := by
  have hnn : n * n ≤ 64 := Nat.mul_le_mul hn hn
  have hm := int_val (wrap_mul8 (i := n) (n := n) (by omega) (by omega))
  obtain ⟨N, hN⟩ : ∃ N, N = n * n := ⟨_, rfl⟩
  rw [← hN] at hnn hm ⊢
  intro l
  induction l with
  | zero =>
    intro xs w hl hA
    have HA := Lib.hid hA
    have he : (((xs.length : Nat) : Int) == (N : Int)) = true := by simp; omega
    clear hl hA hN
    go_enter Try.func60, Try.ntmps60
    go_wp2_with fail
    go_ret
    exact ⟨Below.refl _ _, rfl, HA.out⟩
  | succ l ih =>
    intro xs w hl hA
    have IH := Lib.hid ih; clear ih
    have HA0 := Lib.hid hA
    have HNN := Lib.hid hN
    have he : (((xs.length : Nat) : Int) == (N : Int)) = false := by simp; omega
    have hlN : xs.length < N := by omega
    have hl1 : xs.length + 1 + l = N := by omega
    clear hl hA hN
    rw [goOn_succ]
    go_enter Try.func60, Try.ntmps60
    go_wp2_with fail
    clear he hm
    go_loopw [7] (fun s wr => ∃ x : Nat, x ≤ n ∧ s = .int .i64 x ∧ fsome (goF n l xs) x = none ∧ Agree N xs wr b ∧ Below b w wr) (fun s _ => n - (intOf s).toNat)
    case atStart => exact ⟨0, by omega, rfl, rfl, HA0.out, Below.refl _ _⟩
    case round =>
      clear HA0
      obtain ⟨x, hx, rfl, hnone, hA, hb⟩ := hrel
      have HNo := Lib.hid hnone; have HA := Lib.hid hA; have HB := Lib.hid hb
      clear hnone hA hb
      by_cases hlt : x < n
      · go_wp2_with fail
        go_loopw [8, 9] (fun so sk wr' => ∃ k nd : Nat, k ≤ xs.length ∧ sk = .int .i64 k ∧ so = .bool (!clX n xs x k) ∧ wr' = wr.drewN nd) (fun _ sk _ => xs.length - (intOf sk).toNat)
        case atStart => exact ⟨0, 0, by omega, rfl, rfl, rfl⟩
        case round =>
          obtain ⟨k, nd, hk, rfl, rfl, rfl⟩ := hrel
          have hcl : Hid (clX n xs x (k + 1) = (clX n xs x k || clash n (xs ++ [(x : Int)]) xs.length k)) := rfl
          by_cases hgo : k < xs.length ∧ clX n xs x k = false
          · obtain ⟨hkl, hc⟩ := hgo
            obtain ⟨f, hf1, hf2⟩ := HA.out
            have hcell : wr.cell? ⟨b, k, none⟩ = some (.int .i64 (ix xs k)) := by rw [Arr.cell hf1 (show k < N by omega), hf2 k hkl]
            have HC := Lib.hid hc
            have hq1 := wrap_dv (i := k) (n := n) (by omega)
            have hq2 := wrap_dv (i := xs.length) (n := n) (by omega)
            clear hf1 hf2
            have i1 : ((k : Nat) : Int) < ((N : Nat) : Int) := by omega
            rcases on_way (n := n) (x := x) hkl with ⟨e1, ec⟩ | ⟨e1, e2, ec⟩ | ⟨e1, e2, e3, ec⟩ | ⟨e1, e2, e3, ec⟩
            all_goals
              have Hec := Lib.hid ec; clear ec
              go_wp2
              go_quiet (fail)
              clear hq1 hq2
              go_wp2
              go_roundw
              case rel => exact ⟨k + 1, _, by omega, by go_num, by rw [hcl.out, HC.out, Hec.out]; rfl, rfl⟩
              case measure => simp [intOf]; omega
          · have hdone : k = xs.length ∨ clX n xs x k = true := by
              by_cases e : k = xs.length
              · exact .inl e
              · right
                cases e2 : clX n xs x k
                · exact absurd ⟨by omega, e2⟩ hgo
                · rfl
            have Hfit := Lib.hid (clX_done hk hdone)
            clear hcl
            cases ec : clX n xs x k
            · obtain rfl : k = xs.length := by
                rcases hdone with h | h
                · exact h
                · rw [ec] at h; cases h
              have Hgo : Hid (goF n l xs x = goOn n l (xs ++ [(x : Int)])) := by show _ = _; unfold goF; rw [Hfit.out, ec]; rfl
              clear ec hgo hdone Hfit
              have HP := Lib.hid (HA.out.put (x : Int) hlN)
              have hcell : (wr.drewN nd).cell? ⟨b, xs.length, none⟩ = some (.int .i64 (HA.out.choose xs.length)) := Arr.cell HA.out.choose_spec.1 hlN
              have hfree : (wr.drewN nd).frozen? ⟨b, xs.length, none⟩ = false := Arr.free HA.out.choose_spec.1 hlN
              generalize HA.out.choose xs.length = old at hcell
              have HB1 := Lib.hid ((below_drewN HB.out nd).setCell (Nat.le_refl b) (p := ⟨b, xs.length, none⟩) (.int .i64 (x : Int)))
              have HC : Hid (Calls Try.prog 60 #[.int .i64 n, .slice (some ⟨b, 0, none⟩) N N, .int .i64 (((xs.length : Nat) : Int) + 1)] ((wr.drewN nd).setCell ⟨b, xs.length, none⟩ (.int .i64 (x : Int))) (OnPost (goOn n l (xs ++ [(x : Int)])) N (xs ++ [(x : Int)]) b ((wr.drewN nd).setCell ⟨b, xs.length, none⟩ (.int .i64 (x : Int))))) := by
                have := IH.out (xs ++ [(x : Int)]) ((wr.drewN nd).setCell ⟨b, xs.length, none⟩ (.int .i64 (x : Int))) (by rw [List.length_append]; simpa using hl1) (by exact HP.out.drewN nd)
                rw [List.length_append] at this
                refine (?_ : Calls _ _ _ _ _)
                simpa using this
              cases eg : goOn n l (xs ++ [(x : Int)]) with
              | none =>
                rw [eg] at HC Hgo
                clear eg
                go_wp2_with fail
                refine (HC.out).mono ?_
                intro e w2 hp
                obtain ⟨hb2, rfl, hA2⟩ := hp
                have HB2 := Lib.hid (HB1.out.trans hb2)
                have HA2 := Lib.hid hA2.less; clear hA2 hb2
                go_wp2_with fail
                go_roundw
                case rel => exact ⟨x + 1, by omega, by go_num, by rw [fsome_next HNo.out, Hgo.out], HA2.out, HB2.out⟩
                case measure => simp [intOf]; omega
              | some ys =>
                rw [eg] at HC Hgo
                clear eg
                go_wp2_with fail
                refine (HC.out).mono ?_
                intro e w2 hp
                obtain ⟨hb2, rfl, hA2⟩ := hp
                have HB2 := Lib.hid (HB1.out.trans hb2)
                have HA2 := Lib.hid hA2; clear hA2 hb2
                go_wp2_with fail
                go_ret
                rw [fsome_hit HNo.out Hgo.out hlt]
                exact ⟨HB2.out, rfl, HA2.out⟩
            · have Hgo : Hid (goF n l xs x = none) := by show _ = _; unfold goF; rw [Hfit.out, ec]; rfl
              clear ec hgo hdone Hfit
              have HB1 := Lib.hid (below_drewN HB.out nd)
              have HA1 := Lib.hid (HA.out.drewN nd)
              by_cases hkl : k < xs.length
              all_goals
                go_wp2_with fail
                go_roundw
                case rel => exact ⟨x + 1, by omega, by go_num, by rw [fsome_next HNo.out, Hgo.out], HA1.out, HB1.out⟩
                case measure => simp [intOf]; omega
      · obtain rfl : x = n := by omega
        go_wp2_with fail
        go_ret
        rw [HNo.out]
        exact ⟨HB.out, rfl, HA.out⟩

end Go.Proofs.Ytkmfhnjadpdkeaa
