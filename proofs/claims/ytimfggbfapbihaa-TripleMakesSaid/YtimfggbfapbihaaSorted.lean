/-
  Contract: the reference's Sorted. No condition.
-/
import Derived.BigRegion
import Derived.ChangeAlike
import Derived.Test.YtimfggbfapbihaaSortC
import Derived.Test.YtimfggbfapbihaaSlice
import Derived.Test.YtimfggbfapbihaaOwnPut
namespace Go.Proofs.Ytimfggbfapbihaa
open Go.RowKit

/-- A sorted list of the same is what sorting gives. -/
theorem sortI_of {xs l : List Int} (hp : l.Perm xs) (hs : l.Pairwise (· ≤ ·)) : l = sortI xs := by
  have h1 := hp.trans (sortI_perm xs).symm
  have : ∀ {a b : List Int}, a.Perm b → a.Pairwise (· ≤ ·) → b.Pairwise (· ≤ ·) → a = b := by
    intro a
    induction a with
    | nil => intro b h _ _; exact (List.Perm.eq_nil h.symm).symm
    | cons x a ih =>
      intro b h ha hb
      match b, h, hb with
      | [], h, _ => exact absurd h.length_eq (by simp)
      | y :: b, h, hb =>
        rw [List.pairwise_cons] at ha hb
        have hx : x ∈ y :: b := h.mem_iff.1 (by simp)
        have hy : y ∈ x :: a := h.mem_iff.2 (by simp)
        have hxy : x = y := by
          have h1 : y ≤ x := by
            rcases List.mem_cons.1 hx with e | hx
            · omega
            · exact hb.1 x hx
          have h2 : x ≤ y := by
            rcases List.mem_cons.1 hy with e | hy
            · omega
            · exact ha.1 y hy
          omega
        subst hxy
        rw [ih ((List.perm_cons x).1 h) ha.2 hb.2]
  exact this h1 hs (sortI_le xs)
theorem ix_mid {A B : List Int} {x : Int} : ix (A ++ x :: B) A.length = x := by unfold ix; simp
theorem Own.swap {w : World} {base : Nat} {t : TypeId} {g n c : Nat} {A B : List Int} {x y : Int} (h : Own w base t (.slice (some ⟨g, 0, none⟩) n c) (A ++ y :: x :: B)) :
    Own ((w.setCell ⟨g, A.length, none⟩ (.int .i64 x)).setCell ⟨g, A.length + 1, none⟩ (.int .i64 y)) base t (.slice (some ⟨g, 0, none⟩) n c) (A ++ x :: y :: B) := by
  have h1 := h.put (j := A.length) (by simp) x
  have e1 : (A ++ y :: x :: B).set A.length x = A ++ x :: x :: B := by simp
  rw [e1] at h1
  have h2 := h1.put (j := A.length + 1) (by simp) y
  have e2 : (A ++ x :: x :: B).set (A.length + 1) y = A ++ x :: y :: B := by rw [List.set_append_right _ _ (by omega)]; simp
  rw [e2] at h2
  exact h2
/-- While a number sinks: what stands before it, and behind it. -/
structure Sink (done : List Int) (x : Int) (k : Nat) (A B : List Int) : Prop where
  len : A.length = k
  sorted : (A ++ B).Pairwise (· ≤ ·)
  more : ∀ b ∈ B, x ≤ b
  perm : (A ++ B).Perm done
theorem Sink.step {done : List Int} {x y : Int} {k : Nat} {A B : List Int} (h : Sink done x (k + 1) (A ++ [y]) B) (hy : x < y) : Sink done x k A (y :: B) :=
  ⟨by have := h.len; simp at this; exact this, by have := h.sorted; simpa using this, fun b hb => by
    rcases List.mem_cons.1 hb with rfl | hb
    · omega
    · exact h.more b hb, by have := h.perm; simpa using this⟩
theorem Sink.done {done : List Int} {x : Int} {k : Nat} {A B : List Int} (h : Sink done x k A B) (hA : ∀ a ∈ A, a ≤ x) : (A ++ x :: B).Pairwise (· ≤ ·) ∧ (A ++ x :: B).Perm (done ++ [x]) := by
  constructor
  · have hs := h.sorted
    rw [List.pairwise_append] at hs ⊢
    refine ⟨hs.1, List.pairwise_cons.2 ⟨h.more, hs.2.1⟩, fun a ha b hb => ?_⟩
    rcases List.mem_cons.1 hb with rfl | hb
    · exact hA a ha
    · exact hs.2.2 a ha b hb
  · exact List.perm_middle.trans ((h.perm.cons x).trans (List.perm_append_singleton x done).symm)
theorem sink_last {done : List Int} {x y : Int} {k : Nat} {A B : List Int} (h : Sink done x (k + 1) (A ++ [y]) B) (hy : y ≤ x) : ∀ a ∈ A ++ [y], a ≤ x := by
  intro a ha
  have hs := h.sorted
  rw [List.pairwise_append, List.pairwise_append] at hs
  rcases List.mem_append.1 ha with ha | ha
  · have := hs.1.2.2 a ha y (by simp); omega
  · simp at ha; omega

set_option maxRecDepth 100000 in
set_option maxHeartbeats 2000000 in
theorem sorted_any (v : Value) (xs : List Int) (w : World) (h : IntsAt w v xs) (hl : xs.length ≤ 1000000) :
    Calls Try.prog 16 #[v] w fun e w' => ∃ u, e = .returned u ∧ Own w' w.heap.size 3 u (sortI xs) ∧ Below w.heap.size w w' := by
  obtain ⟨a, c, rfl, h1, h2, _, h3⟩ := h
  have HX := Lib.hid h3; clear h3
  go_enter Try.func16, Try.ntmps16
  go_wp2_with fail
  go_loopw [4, 3] (fun s l wr => ∃ (i : Nat) (L : List Int) (z : Value), i ≤ xs.length ∧ s = .int .i64 i ∧ l = z ∧ L.Perm (xs.take i) ∧ L.Pairwise (· ≤ ·) ∧ Own wr w.heap.size 3 z L ∧ Below w.heap.size w wr) (fun s _ _ => xs.length - (intOf s).toNat)
  case atStart => exact ⟨0, [], _, by omega, rfl, rfl, by simp, List.Pairwise.nil, own_nil _ _ _, Below.refl _ _⟩
  case round =>
    obtain ⟨i, L, lv, hi, rfl, hz, hp, hs, hO, hB⟩ := hrel
    have hLl : L.length = i := by have := hp.length_eq; rw [List.length_take] at this; omega
    have HP := Lib.hid hp; have HS := Lib.hid hs; have HO := Lib.hid hO; have HB := Lib.hid hB; have HLl := Lib.hid hLl
    have hsz := hB.size
    clear hp hs hB hLl
    obtain ⟨la, lc, hlv⟩ : ∃ a c, lv = .slice a i c := by
      rcases hO.2 with ⟨e, e2⟩ | ⟨g, cap, cur, e, _⟩
      · have := HLl.out; exact ⟨none, 0, by rw [e]; congr 1; omega⟩
      · have := HLl.out; exact ⟨_, _, by rw [e, this]⟩
    subst hlv
    subst hz
    clear hO
    by_cases hlt : i < xs.length
    · obtain ⟨b, o, rfl, hb, hc⟩ := HX.out i hlt
      have hcell := hc i hlt
      rw [← (bcell HB.out).1 _ _ hb] at hcell
      clear hc
      have hgl : ∀ {v' : Value} {w1 : World} {M : List Int}, Own w1 w.heap.size 3 v' (M ++ [ix xs i]) → ∃ g c, v' = .slice (some ⟨g, 0, none⟩) (M.length + 1) c := fun {v' w1 M} ho => by
        rcases ho.2 with ⟨_, e2⟩ | ⟨g, cap, cur, e, _⟩
        · simp at e2
        · exact ⟨g, cap, by rw [e]; simp⟩
      have HTk : Hid (xs.take (i + 1) = xs.take i ++ [ix xs i]) := take_succ_ix hlt
      generalize ix xs i = X at *
      go_wp2_with (at_builtin; refine app_own rfl _ _ rfl rfl (HO.out.alloc _) _ _ rfl (by rw [World.cell?_alloc_new]; rfl) (by have := HLl.out; omega) (by rw [World.size_alloc]; omega) ?_; intro v' w1 hown1 hgrow; obtain ⟨g, gc, rfl⟩ := hgl hown1)
      have hB1 := (HB.out.alloc hsz _).grown hgrow (by rw [World.size_alloc]; omega) (fun k hk => (HO.out.block k hk).1)
      have HO1 := Lib.hid hown1
      have HB1 := Lib.hid hB1
      have HSk : Hid (Sink L X i L []) := ⟨HLl.out, by rw [List.append_nil]; exact HS.out, fun b hb => (by cases hb), by rw [List.append_nil]⟩
      rw [HLl.out]
      clear hown1 hgrow hB1 hgl hcell HO
      go_loopw [5] (fun s wr => ∃ (k : Nat) (A B : List Int), k ≤ i ∧ s = .int .i64 k ∧ Sink L X k A B ∧ Own wr w.heap.size 3 (.slice (some ⟨g, 0, none⟩) (i + 1) gc) (A ++ X :: B) ∧ Below w.heap.size w wr) (fun s _ => (intOf s).toNat)
      case atStart => exact ⟨i, L, [], Nat.le_refl _, rfl, HSk.out, by rw [← HLl.out]; exact HO1.out, HB1.out⟩
      case round =>
        clear HO1 HB1 HSk
        obtain ⟨k, A, B, hk, rfl, hS, hO, hB⟩ := hrel
        have HSk := Lib.hid hS; have HO := Lib.hid hO; have HB2 := Lib.hid hB
        clear hS hO hB
        have HEnd : Hid ((∀ a ∈ A, a ≤ X) → (A ++ X :: B).Perm (xs.take (i + 1)) ∧ (A ++ X :: B).Pairwise (· ≤ ·)) := fun hA => by
          obtain ⟨q1, q2⟩ := HSk.out.done hA
          refine ⟨?_, q1⟩
          rw [HTk.out]
          exact q2.trans (List.Perm.append_right _ HP.out)
        cases k with
        | zero =>
          have hA : A = [] := List.eq_nil_of_length_eq_zero HSk.out.len
          have HE2 := Lib.hid (HEnd.out (by rw [hA]; intro a ha; cases ha))
          clear hA HEnd
          go_wp2_with fail
          go_quiet (fail)
          go_wp2_with fail
          go_roundw
          case rel => exact ⟨i + 1, A ++ X :: B, _, by omega, by go_num, rfl, HE2.out.1, HE2.out.2, HO.out, below_drewN HB2.out _⟩
          case measure => simp [intOf]; omega
        | succ k =>
          have hAl := HSk.out.len
          obtain ⟨A', y, hA⟩ : ∃ A' y, A = A' ++ [y] := by
            have hne : A ≠ [] := by intro e; rw [e] at hAl; simp at hAl
            exact ⟨A.dropLast, A.getLast hne, (List.dropLast_concat_getLast hne).symm⟩
          subst hA
          have hAl' : A'.length = k := by simp at hAl; exact hAl
          have hM : A' ++ [y] ++ X :: B = A' ++ y :: X :: B := by simp
          have hO2 := HO.out
          rw [hM] at hO2
          have c1 := (hO2.cellAt (j := k) (by simp; omega)).1
          have f1 := (hO2.cellAt (j := k) (by simp; omega)).2.1
          have c2 := (hO2.cellAt (j := k + 1) (by simp; omega)).1
          have f2 := (hO2.cellAt (j := k + 1) (by simp; omega)).2.1
          have hgw := (hO2.cellAt (j := k) (by simp; omega)).2.2
          have e1 : ix (A' ++ y :: X :: B) k = y := by rw [← hAl']; exact ix_mid
          have e2 : ix (A' ++ y :: X :: B) (k + 1) = X := by
            have : A' ++ y :: X :: B = (A' ++ [y]) ++ X :: B := by simp
            rw [this, ← hAl', show A'.length + 1 = (A' ++ [y]).length by simp]; exact ix_mid
          rw [e1] at c1
          rw [e2] at c2
          have hsw : ∀ m, Own (((wr.drewN m).setCell ⟨g, k, none⟩ (.int .i64 X)).setCell ⟨g, k + 1, none⟩ (.int .i64 y)) w.heap.size 3 (.slice (some ⟨g, 0, none⟩) (i + 1) gc) (A' ++ X :: y :: B) := fun m => by
            have := (hO2.drewN m).swap
            rw [hAl'] at this; exact this
          have HSw := Lib.hid hsw
          have HB3 : Hid (∀ m, Below w.heap.size w (((wr.drewN m).setCell ⟨g, k, none⟩ (.int .i64 X)).setCell ⟨g, k + 1, none⟩ (.int .i64 y))) := fun m => ((below_drewN HB2.out m).setCell hgw _).setCell hgw _
          have i0 : (0 : Int) ≤ (k : Int) + 1 - 1 := by omega
          have i1 : ((k : Int) + 1 - 1).toNat = k := by omega
          have i2 : ((k : Int) + 1).toNat = k + 1 := by omega
          have i3 : (0 : Int) ≤ (k : Int) + 1 := by omega
          have i4 : (k : Int) < (i : Int) + 1 := by omega
          have i5 : (k : Int) + 1 < (i : Int) + 1 := by omega
          have i6 : IntKind.i64.wrap (k : Int) = (k : Int) := IntWalk.i64_in _ (by omega)
          have i7 : (k : Int) < (i : Int) := by omega
          clear e1 e2 hsw hO2 hM hAl hAl'
          cases ed : decide (X < y)
          · have HE2 := Lib.hid (HEnd.out (sink_last HSk.out (by simpa using ed)))
            clear HEnd
            go_wp2_with fail
            go_quiet (fail)
            go_wp2_with fail
            go_roundw
            case rel => exact ⟨i + 1, A' ++ [y] ++ X :: B, _, by omega, by go_num, rfl, HE2.out.1, HE2.out.2, HO.out, below_drewN HB2.out _⟩
            case measure => simp [intOf]; omega
          · have HStp := Lib.hid (HSk.out.step (by simpa using ed))
            clear HEnd
            go_wp2_with fail
            go_quiet (fail)
            go_wp2_with fail
            go_region
            all_goals
              go_wp2_with fail
              go_roundw
              case rel => exact ⟨k, A', y :: B, by omega, rfl, HStp.out, HSw.out _, HB3.out _⟩
              case measure => simp [intOf]
    · obtain rfl : i = xs.length := by omega
      have HF : Hid (L = sortI xs) := sortI_of (by have := HP.out; rwa [List.take_length] at this) HS.out
      go_wp2_with fail
      go_ret
      exact ⟨_, rfl, by rw [← HF.out]; exact HO.out, HB.out⟩
end Go.Proofs.Ytimfggbfapbihaa
