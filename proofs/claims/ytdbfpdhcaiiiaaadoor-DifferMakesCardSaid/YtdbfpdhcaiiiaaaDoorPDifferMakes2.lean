/-
  A store into a slice of the call's own. No condition.
  Contract: the reference's Sorted. No condition.
  Plain words: sums over lists; counting twice. No program in sight. No condition.
  Rising lists: the plain words; slices.ContainsFunc at a plain function. No condition.
  Slices of rows that a call makes itself, row by row, and grows by append. No condition.
  Contracts: the reference's Ints (are two lists the same?). No condition.
-/
import Derived.Test.YtdbfpdhcaiiiaaaDoorPDifferMakes1
import Derived.BigRegion
import Derived.ChangeAlike
namespace Go.Proofs.YtdbfpdhcaiiiaaaDoor
open Go.RowKit

theorem Own.cellAt {w : World} {base : Nat} {t : TypeId} {g n c : Nat} {xs : List Int} (h : Own w base t (.slice (some ⟨g, 0, none⟩) n c) xs) {j : Nat} (hj : j < xs.length) :
    w.cell? ⟨g, j, none⟩ = some (.int .i64 (ix xs j)) ∧ w.frozen? ⟨g, j, none⟩ = false ∧ base ≤ g := by
  rcases h.2 with ⟨e, _⟩ | ⟨g', cap, cur, e, hg, hh, hc, hm, hs, ht⟩
  · cases e
  · injection e with e1 e2 e3
    injection e1 with e1; injection e1 with e1 _ _; subst e1
    refine ⟨?_, by simp [World.frozen?, hh], hg⟩
    rw [cell_of_row w g j cur t (0, 0) hh]
    have e : (cur.toList.take (xs.length * 1))[j]? = (cellsOf xs)[j]? := by rw [ht]
    rw [List.getElem?_take_of_lt (by omega)] at e
    rw [← Array.getElem?_toList, e]
    simp [cellsOf, ix, hj]
theorem Own.put {w : World} {base : Nat} {t : TypeId} {g n c : Nat} {xs : List Int} (h : Own w base t (.slice (some ⟨g, 0, none⟩) n c) xs) {j : Nat} (_hj : j < xs.length) (x : Int) :
    Own (w.setCell ⟨g, j, none⟩ (.int .i64 x)) base t (.slice (some ⟨g, 0, none⟩) n c) (xs.set j x) := by
  unfold Own at h ⊢
  rw [List.length_set]
  refine ⟨by simp [cellsOf], ?_⟩
  rcases h.2 with ⟨e, _⟩ | ⟨g', cap, cur, e, hg, hh, hc, hm, hs, ht⟩
  · cases e
  · injection e with e1 e2 e3
    injection e1 with e1; injection e1 with e1 _ _; subst e1; subst e3
    refine .inr ⟨g, c, cur.setIfInBounds j (.int .i64 x), by rw [e2], hg, ?_, hc, hm, by simp [hs], ?_⟩
    · obtain ⟨hlt, hk⟩ := Array.getElem?_eq_some_iff.1 hh
      show (w.heap.modify g _)[g]? = _
      rw [Array.getElem?_eq_getElem (by rw [Array.size_modify]; exact hlt), Array.getElem_modify_self, hk]
      rfl
    · rw [Nat.mul_one] at ht ⊢
      rw [Array.toList_setIfInBounds, List.take_set, ht]
      simp [cellsOf]
theorem Own.below {w w' : World} {base : Nat} {t : TypeId} {v : Value} {xs : List Int} (h : Own w base t v xs) (hb : Below w.heap.size w w') : Own w' base t v xs :=
  World.ownsRow.kept h (row := none) ⟨hb.os, hb.tape, hb.output, hb.size, fun j hj _ => hb.block j hj⟩ (by cases hv : v.ownBlock <;> simp)
end Go.Proofs.YtdbfpdhcaiiiaaaDoor

namespace Go.Proofs.YtdbfpdhcaiiiaaaDoor
open Go.RowKit

/-- A sorted list of the same is what sorting gives. -/
theorem sortI_of {xs l : List Int} (hp : l.Perm xs) (hs : l.Pairwise (· ≤ ·)) : l = sortI xs := by
  have h1 := hp.trans (sortI_perm xs).symm
  have : ∀ {a b : List Int}, a.Perm b → a.Pairwise (· ≤ ·) → b.Pairwise (· ≤ ·) → a = b := by
    intro a
    induction a with
    | nil => intro b h _ _; exact (List.Perm.eq_nil h.symm).symm
    | cons x a ih =>
      intro b h ha hb
      match b, h, hb with
      | [], h, _ => exact absurd h.length_eq (by simp)
      | y :: b, h, hb =>
        rw [List.pairwise_cons] at ha hb
        have hx : x ∈ y :: b := h.mem_iff.1 (by simp)
        have hy : y ∈ x :: a := h.mem_iff.2 (by simp)
        have hxy : x = y := by
          have h1 : y ≤ x := by
            rcases List.mem_cons.1 hx with e | hx
            · omega
            · exact hb.1 x hx
          have h2 : x ≤ y := by
            rcases List.mem_cons.1 hy with e | hy
            · omega
            · exact ha.1 y hy
          omega
        subst hxy
        rw [ih ((List.perm_cons x).1 h) ha.2 hb.2]
  exact this h1 hs (sortI_le xs)
theorem ix_mid {A B : List Int} {x : Int} : ix (A ++ x :: B) A.length = x := by unfold ix; simp
theorem Own.swap {w : World} {base : Nat} {t : TypeId} {g n c : Nat} {A B : List Int} {x y : Int} (h : Own w base t (.slice (some ⟨g, 0, none⟩) n c) (A ++ y :: x :: B)) :
    Own ((w.setCell ⟨g, A.length, none⟩ (.int .i64 x)).setCell ⟨g, A.length + 1, none⟩ (.int .i64 y)) base t (.slice (some ⟨g, 0, none⟩) n c) (A ++ x :: y :: B) := by
  have h1 := h.put (j := A.length) (by simp) x
  have e1 : (A ++ y :: x :: B).set A.length x = A ++ x :: x :: B := by simp
  rw [e1] at h1
  have h2 := h1.put (j := A.length + 1) (by simp) y
  have e2 : (A ++ x :: x :: B).set (A.length + 1) y = A ++ x :: y :: B := by rw [List.set_append_right _ _ (by omega)]; simp
  rw [e2] at h2
  exact h2
/-- While a number sinks: what stands before it, and behind it. -/
structure Sink (done : List Int) (x : Int) (k : Nat) (A B : List Int) : Prop where
  len : A.length = k
  sorted : (A ++ B).Pairwise (· ≤ ·)
  more : ∀ b ∈ B, x ≤ b
  perm : (A ++ B).Perm done
theorem Sink.step {done : List Int} {x y : Int} {k : Nat} {A B : List Int} (h : Sink done x (k + 1) (A ++ [y]) B) (hy : x < y) : Sink done x k A (y :: B) :=
  ⟨by have := h.len; simp at this; exact this, by have := h.sorted; simpa using this, fun b hb => by
    rcases List.mem_cons.1 hb with rfl | hb
    · omega
    · exact h.more b hb, by have := h.perm; simpa using this⟩
theorem Sink.done {done : List Int} {x : Int} {k : Nat} {A B : List Int} (h : Sink done x k A B) (hA : ∀ a ∈ A, a ≤ x) : (A ++ x :: B).Pairwise (· ≤ ·) ∧ (A ++ x :: B).Perm (done ++ [x]) := by
  constructor
  · have hs := h.sorted
    rw [List.pairwise_append] at hs ⊢
    refine ⟨hs.1, List.pairwise_cons.2 ⟨h.more, hs.2.1⟩, fun a ha b hb => ?_⟩
    rcases List.mem_cons.1 hb with rfl | hb
    · exact hA a ha
    · exact hs.2.2 a ha b hb
  · exact List.perm_middle.trans ((h.perm.cons x).trans (List.perm_append_singleton x done).symm)
theorem sink_last {done : List Int} {x y : Int} {k : Nat} {A B : List Int} (h : Sink done x (k + 1) (A ++ [y]) B) (hy : y ≤ x) : ∀ a ∈ A ++ [y], a ≤ x := by
  intro a ha
  have hs := h.sorted
  rw [List.pairwise_append, List.pairwise_append] at hs
  rcases List.mem_append.1 ha with ha | ha
  · have := hs.1.2.2 a ha y (by simp); omega
  · simp at ha; omega

set_option maxRecDepth 100000 in
set_option maxHeartbeats 2000000 in
theorem sorted_any (v : Value) (xs : List Int) (w : World) (h : IntsAt w v xs) (hl : xs.length ≤ 1000000) :
    Calls Tryd.prog 66 #[v] w fun e w' => ∃ u, e = .returned u ∧ Own w' w.heap.size 3 u (sortI xs) ∧ Below w.heap.size w w' := by
  obtain ⟨a, c, rfl, h1, h2, _, h3⟩ := h
  have HX := Lib.hid h3; clear h3
  go_enter Tryd.func66, Tryd.ntmps66
  go_wp2_with fail
  go_loopw [4, 3] (fun s l wr => ∃ (i : Nat) (L : List Int) (z : Value), i ≤ xs.length ∧ s = .int .i64 i ∧ l = z ∧ L.Perm (xs.take i) ∧ L.Pairwise (· ≤ ·) ∧ Own wr w.heap.size 3 z L ∧ Below w.heap.size w wr) (fun s _ _ => xs.length - (intOf s).toNat)
  case atStart => exact ⟨0, [], _, by omega, rfl, rfl, by simp, List.Pairwise.nil, own_nil _ _ _, Below.refl _ _⟩
  case round =>
    obtain ⟨i, L, lv, hi, rfl, hz, hp, hs, hO, hB⟩ := hrel
    have hLl : L.length = i := by have := hp.length_eq; rw [List.length_take] at this; omega
    have HP := Lib.hid hp; have HS := Lib.hid hs; have HO := Lib.hid hO; have HB := Lib.hid hB; have HLl := Lib.hid hLl
    have hsz := hB.size
    clear hp hs hB hLl
    obtain ⟨la, lc, hlv⟩ : ∃ a c, lv = .slice a i c := by
      rcases hO.2 with ⟨e, e2⟩ | ⟨g, cap, cur, e, _⟩
      · have := HLl.out; exact ⟨none, 0, by rw [e]; congr 1; omega⟩
      · have := HLl.out; exact ⟨_, _, by rw [e, this]⟩
    subst hlv
    subst hz
    clear hO
    by_cases hlt : i < xs.length
    · obtain ⟨b, o, rfl, hb, hc⟩ := HX.out i hlt
      have hcell := hc i hlt
      rw [← (bcell HB.out).1 _ _ hb] at hcell
      clear hc
      have hgl : ∀ {v' : Value} {w1 : World} {M : List Int}, Own w1 w.heap.size 3 v' (M ++ [ix xs i]) → ∃ g c, v' = .slice (some ⟨g, 0, none⟩) (M.length + 1) c := fun {v' w1 M} ho => by
        rcases ho.2 with ⟨_, e2⟩ | ⟨g, cap, cur, e, _⟩
        · simp at e2
        · exact ⟨g, cap, by rw [e]; simp⟩
      have HTk : Hid (xs.take (i + 1) = xs.take i ++ [ix xs i]) := take_succ_ix hlt
      generalize ix xs i = X at *
      go_wp2_with (at_builtin; refine app_own rfl _ _ rfl rfl (HO.out.alloc _) _ _ rfl (by rw [World.cell?_alloc_new]; rfl) (by have := HLl.out; omega) (by rw [World.size_alloc]; omega) ?_; intro v' w1 hown1 hgrow; obtain ⟨g, gc, rfl⟩ := hgl hown1)
      have hB1 := (HB.out.alloc hsz _).grown hgrow (by rw [World.size_alloc]; omega) (fun k hk => (HO.out.block k hk).1)
      have HO1 := Lib.hid hown1
      have HB1 := Lib.hid hB1
      have HSk : Hid (Sink L X i L []) := ⟨HLl.out, by rw [List.append_nil]; exact HS.out, fun b hb => (by cases hb), by rw [List.append_nil]⟩
      rw [HLl.out]
      clear hown1 hgrow hB1 hgl hcell HO
      go_loopw [5] (fun s wr => ∃ (k : Nat) (A B : List Int), k ≤ i ∧ s = .int .i64 k ∧ Sink L X k A B ∧ Own wr w.heap.size 3 (.slice (some ⟨g, 0, none⟩) (i + 1) gc) (A ++ X :: B) ∧ Below w.heap.size w wr) (fun s _ => (intOf s).toNat)
      case atStart => exact ⟨i, L, [], Nat.le_refl _, rfl, HSk.out, by rw [← HLl.out]; exact HO1.out, HB1.out⟩
      case round =>
        clear HO1 HB1 HSk
        obtain ⟨k, A, B, hk, rfl, hS, hO, hB⟩ := hrel
        have HSk := Lib.hid hS; have HO := Lib.hid hO; have HB2 := Lib.hid hB
        clear hS hO hB
        have HEnd : Hid ((∀ a ∈ A, a ≤ X) → (A ++ X :: B).Perm (xs.take (i + 1)) ∧ (A ++ X :: B).Pairwise (· ≤ ·)) := fun hA => by
          obtain ⟨q1, q2⟩ := HSk.out.done hA
          refine ⟨?_, q1⟩
          rw [HTk.out]
          exact q2.trans (List.Perm.append_right _ HP.out)
        cases k with
        | zero =>
          have hA : A = [] := List.eq_nil_of_length_eq_zero HSk.out.len
          have HE2 := Lib.hid (HEnd.out (by rw [hA]; intro a ha; cases ha))
          clear hA HEnd
          go_wp2_with fail
          go_quiet (fail)
          go_wp2_with fail
          go_roundw
          case rel => exact ⟨i + 1, A ++ X :: B, _, by omega, by go_num, rfl, HE2.out.1, HE2.out.2, HO.out, below_drewN HB2.out _⟩
          case measure => simp [intOf]; omega
        | succ k =>
          have hAl := HSk.out.len
          obtain ⟨A', y, hA⟩ : ∃ A' y, A = A' ++ [y] := by
            have hne : A ≠ [] := by intro e; rw [e] at hAl; simp at hAl
            exact ⟨A.dropLast, A.getLast hne, (List.dropLast_concat_getLast hne).symm⟩
          subst hA
          have hAl' : A'.length = k := by simp at hAl; exact hAl
          have hM : A' ++ [y] ++ X :: B = A' ++ y :: X :: B := by simp
          have hO2 := HO.out
          rw [hM] at hO2
          have c1 := (hO2.cellAt (j := k) (by simp; omega)).1
          have f1 := (hO2.cellAt (j := k) (by simp; omega)).2.1
          have c2 := (hO2.cellAt (j := k + 1) (by simp; omega)).1
          have f2 := (hO2.cellAt (j := k + 1) (by simp; omega)).2.1
          have hgw := (hO2.cellAt (j := k) (by simp; omega)).2.2
          have e1 : ix (A' ++ y :: X :: B) k = y := by rw [← hAl']; exact ix_mid
          have e2 : ix (A' ++ y :: X :: B) (k + 1) = X := by
            have : A' ++ y :: X :: B = (A' ++ [y]) ++ X :: B := by simp
            rw [this, ← hAl', show A'.length + 1 = (A' ++ [y]).length by simp]; exact ix_mid
          rw [e1] at c1
          rw [e2] at c2
          have hsw : ∀ m, Own (((wr.drewN m).setCell ⟨g, k, none⟩ (.int .i64 X)).setCell ⟨g, k + 1, none⟩ (.int .i64 y)) w.heap.size 3 (.slice (some ⟨g, 0, none⟩) (i + 1) gc) (A' ++ X :: y :: B) := fun m => by
            have := (hO2.drewN m).swap
            rw [hAl'] at this; exact this
          have HSw := Lib.hid hsw
          have HB3 : Hid (∀ m, Below w.heap.size w (((wr.drewN m).setCell ⟨g, k, none⟩ (.int .i64 X)).setCell ⟨g, k + 1, none⟩ (.int .i64 y))) := fun m => ((below_drewN HB2.out m).setCell hgw _).setCell hgw _
          have i0 : (0 : Int) ≤ (k : Int) + 1 - 1 := by omega
          have i1 : ((k : Int) + 1 - 1).toNat = k := by omega
          have i2 : ((k : Int) + 1).toNat = k + 1 := by omega
          have i3 : (0 : Int) ≤ (k : Int) + 1 := by omega
          have i4 : (k : Int) < (i : Int) + 1 := by omega
          have i5 : (k : Int) + 1 < (i : Int) + 1 := by omega
          have i6 : IntKind.i64.wrap (k : Int) = (k : Int) := IntWalk.i64_in _ (by omega)
          have i7 : (k : Int) < (i : Int) := by omega
          clear e1 e2 hsw hO2 hM hAl hAl'
          cases ed : decide (X < y)
          · have HE2 := Lib.hid (HEnd.out (sink_last HSk.out (by simpa using ed)))
            clear HEnd
            go_wp2_with fail
            go_quiet (fail)
            go_wp2_with fail
            go_roundw
            case rel => exact ⟨i + 1, A' ++ [y] ++ X :: B, _, by omega, by go_num, rfl, HE2.out.1, HE2.out.2, HO.out, below_drewN HB2.out _⟩
            case measure => simp [intOf]; omega
          · have HStp := Lib.hid (HSk.out.step (by simpa using ed))
            clear HEnd
            go_wp2_with fail
            go_quiet (fail)
            go_wp2_with fail
            go_region
            all_goals
              go_wp2_with fail
              go_roundw
              case rel => exact ⟨k, A', y :: B, by omega, rfl, HStp.out, HSw.out _, HB3.out _⟩
              case measure => simp [intOf]
    · obtain rfl : i = xs.length := by omega
      have HF : Hid (L = sortI xs) := sortI_of (by have := HP.out; rwa [List.take_length] at this) HS.out
      go_wp2_with fail
      go_ret
      exact ⟨_, rfl, by rw [← HF.out]; exact HO.out, HB.out⟩
end Go.Proofs.YtdbfpdhcaiiiaaaDoor

namespace Go.Proofs.YtdbfpdhcaiiiaaaDoor
open Go.RowKit

def sumL {α : Type} : List α → (α → Int) → Int
  | [], _ => 0
  | a :: l, f => f a + sumL l f
section
variable {α β : Type}
theorem sumL_append (f : α → Int) : ∀ (l m : List α), sumL (l ++ m) f = sumL l f + sumL m f
  | [], m => by simp [sumL]
  | a :: l, m => by show f a + sumL (l ++ m) f = f a + sumL l f + sumL m f; rw [sumL_append f l m]; omega
theorem sumL_congr {f g : α → Int} : ∀ {l : List α}, (∀ x ∈ l, f x = g x) → sumL l f = sumL l g
  | [], _ => rfl
  | a :: l, h => by show f a + sumL l f = g a + sumL l g; rw [h a (by simp), sumL_congr fun x hx => h x (by simp [hx])]
theorem sumL_add (f g : α → Int) : ∀ l : List α, sumL l (fun x => f x + g x) = sumL l f + sumL l g
  | [] => rfl
  | a :: l => by show f a + g a + sumL l _ = f a + sumL l f + (g a + sumL l g); rw [sumL_add f g l]; omega
theorem sumL_sub (f g : α → Int) : ∀ l : List α, sumL l (fun x => f x - g x) = sumL l f - sumL l g
  | [] => rfl
  | a :: l => by show f a - g a + sumL l _ = f a + sumL l f - (g a + sumL l g); rw [sumL_sub f g l]; omega
theorem sumL_mul (c : Int) (f : α → Int) : ∀ l : List α, sumL l (fun x => c * f x) = c * sumL l f
  | [] => by simp [sumL]
  | a :: l => by show c * f a + sumL l _ = c * (f a + sumL l f); rw [sumL_mul c f l, Int.mul_add]
theorem sumL_mulr (c : Int) (f : α → Int) (l : List α) : sumL l (fun x => f x * c) = sumL l f * c := by
  rw [Int.mul_comm, ← sumL_mul]; exact sumL_congr fun x _ => Int.mul_comm _ _
theorem sumL_zero : ∀ l : List α, sumL l (fun _ => 0) = 0
  | [] => rfl
  | a :: l => by show 0 + sumL l _ = 0; rw [sumL_zero l]; rfl
theorem sumL_const (c : Int) : ∀ l : List α, sumL l (fun _ => c) = c * l.length
  | [] => by simp [sumL]
  | a :: l => by show c + sumL l _ = c * ((l.length + 1 : Nat) : Int); rw [sumL_const c l, Int.natCast_succ, Int.mul_add]; omega
theorem sumL_swap (f : α → β → Int) : ∀ (l : List α) (m : List β), sumL l (fun a => sumL m (f a)) = sumL m (fun b => sumL l (fun a => f a b))
  | [], m => by show 0 = sumL m (fun _ => 0); rw [sumL_zero]
  | a :: l, m => by
    show sumL m (f a) + sumL l (fun a => sumL m (f a)) = sumL m (fun b => f a b + sumL l (fun a => f a b))
    rw [sumL_add, sumL_swap f l m]
theorem sumL_nonneg {f : α → Int} : ∀ {l : List α}, (∀ x ∈ l, 0 ≤ f x) → 0 ≤ sumL l f
  | [], _ => by simp [sumL]
  | a :: l, h => by
    have := h a (by simp)
    have := sumL_nonneg (l := l) fun x hx => h x (by simp [hx])
    show 0 ≤ f a + sumL l f; omega
theorem sumL_le {f g : α → Int} {l : List α} (h : ∀ x ∈ l, f x ≤ g x) : sumL l f ≤ sumL l g := by
  have : 0 ≤ sumL l (fun x => g x - f x) := sumL_nonneg fun x hx => by have := h x hx; omega
  rw [sumL_sub] at this; omega
theorem sumL_null {f : α → Int} : ∀ {l : List α}, (∀ x ∈ l, 0 ≤ f x) → sumL l f = 0 → ∀ x ∈ l, f x = 0
  | [], _, _, x, hx => by cases hx
  | a :: l, h, e, x, hx => by
    have h1 := h a (by simp)
    have h2 := sumL_nonneg (l := l) fun x hx => h x (by simp [hx])
    have e' : f a + sumL l f = 0 := e
    rcases List.mem_cons.1 hx with rfl | hx
    · omega
    · exact sumL_null (l := l) (fun x hx => h x (by simp [hx])) (by omega) x hx
theorem sumL_map (g : α → β) (f : β → Int) : ∀ l : List α, sumL (l.map g) f = sumL l (fun x => f (g x))
  | [] => rfl
  | a :: l => by show f (g a) + sumL (l.map g) f = _; rw [sumL_map g f l]; rfl
/-- The square of a sum. -/
theorem sumL_sq (f : α → Int) (l : List α) : sumL l f * sumL l f = sumL l (fun a => sumL l (fun b => f a * f b)) := by
  rw [← sumL_mulr]
  exact sumL_congr fun a _ => by rw [← sumL_mul]
end
/-- One where it is true. -/
def ind (b : Bool) : Int := if b then 1 else 0
theorem ind_true : ind true = 1 := rfl
theorem ind_false : ind false = 0 := rfl
theorem ind_and (a b : Bool) : ind (a && b) = ind a * ind b := by cases a <;> cases b <;> rfl
theorem ind_not (a : Bool) : ind (!a) = 1 - ind a := by cases a <;> rfl
theorem ind_sq (a : Bool) : ind a * ind a = ind a := by cases a <;> rfl
theorem ind_nonneg (a : Bool) : 0 ≤ ind a := by cases a <;> decide
theorem ind_le (a : Bool) : ind a ≤ 1 := by cases a <;> decide
theorem ind_iff {a b : Bool} (h : a = true ↔ b = true) : ind a = ind b := by rw [Bool.eq_iff_iff.2 h]

/-- How many below k have a property. -/
def cnt (p : Nat → Bool) : Nat → Nat
  | 0 => 0
  | k + 1 => cnt p k + if p k then 1 else 0
theorem cnt_le (p : Nat → Bool) : ∀ k, cnt p k ≤ k
  | 0 => Nat.le_refl _
  | k + 1 => by have := cnt_le p k; rw [cnt]; split <;> omega
theorem cnt_congr {p q : Nat → Bool} : ∀ {k : Nat}, (∀ i, i < k → p i = q i) → cnt p k = cnt q k
  | 0, _ => rfl
  | k + 1, h => by rw [cnt, cnt, cnt_congr (k := k) fun i hi => h i (by omega), h k (by omega)]
theorem range_succ_sum (f : Nat → Int) (k : Nat) : sumL (List.range (k + 1)) f = sumL (List.range k) f + f k := by
  rw [List.range_succ, sumL_append]; simp [sumL]
theorem cnt_sum (p : Nat → Bool) : ∀ k, ((cnt p k : Nat) : Int) = sumL (List.range k) (fun i => ind (p i))
  | 0 => rfl
  | k + 1 => by
    rw [range_succ_sum, ← cnt_sum p k, cnt]
    cases e : p k
    · simp [ind]
    · simp [ind]
theorem sum_one {x : Nat} : ∀ {n : Nat} (f : Nat → Int), x < n → sumL (List.range n) (fun y => ind (y == x) * f y) = f x
  | 0, _, h => by omega
  | n + 1, f, h => by
    rw [range_succ_sum]
    by_cases e : x = n
    · subst e
      have : sumL (List.range x) (fun y => ind (y == x) * f y) = 0 := by
        rw [← sumL_zero (List.range x)]
        refine sumL_congr fun y hy => ?_
        rw [List.mem_range] at hy
        rw [show (y == x) = false by simp; omega]; simp [ind]
      rw [this]; simp [ind]
    · rw [sum_one f (by omega), show (n == x) = false by simp; omega]; simp [ind]
/-- A list without doubles has as many as are counted. -/
theorem nodup_count {n : Nat} : ∀ {l : List Nat}, l.Nodup → (∀ x ∈ l, x < n) → sumL (List.range n) (fun y => ind (l.contains y)) = l.length
  | [], _, _ => by simp only [List.contains_nil]; exact sumL_zero _
  | x :: l, h, g => by
    rw [List.nodup_cons] at h
    have e : ∀ y, ind ((x :: l).contains y) = ind (y == x) * 1 + ind (l.contains y) := by
      intro y
      rw [List.contains_cons]
      by_cases e : y = x
      · subst e
        have : l.contains y = false := by simpa using h.1
        rw [this]; simp [ind]
      · rw [show (y == x) = false by simpa using e]; simp [ind]
    rw [sumL_congr fun y _ => e y, sumL_add, sum_one (fun _ => 1) (g x (by simp)), nodup_count h.2 fun y hy => g y (by simp [hy])]
    simp only [List.length_cons, Int.natCast_succ]; omega
end Go.Proofs.YtdbfpdhcaiiiaaaDoor

namespace Go.Proofs.YtdbfpdhcaiiiaaaDoor
open Go.RowKit

/-- Is one of the first k steps none upwards? -/
def notInc (l : List Int) : Nat → Bool
  | 0 => false
  | k + 1 => notInc l k || decide (ix l (k + 1) ≤ ix l k)
def incB (l : List Int) : Bool := !notInc l (l.length - 1)
theorem notInc_hit {l : List Int} {k m : Nat} (h : k < m) (e : ix l (k + 1) ≤ ix l k) : notInc l m = true := by
  induction m with
  | zero => omega
  | succ m ih =>
    rw [notInc]
    by_cases hk : k = m
    · subst hk; simp [e]
    · simp [ih (by omega)]
theorem notInc_step {l : List Int} : ∀ {m : Nat}, notInc l m = false → ∀ {k : Nat}, k < m → ix l k < ix l (k + 1)
  | 0, _, k, hk => by omega
  | m + 1, h, k, hk => by
    rw [notInc, Bool.or_eq_false_iff] at h
    by_cases e : k = m
    · subst e; have := h.2; simp at this; exact this
    · exact notInc_step h.1 (by omega)
theorem inc_lt {l : List Int} (h : incB l = true) {i j : Nat} (hij : i < j) (hj : j < l.length) : ix l i < ix l j := by
  unfold incB at h
  rw [Bool.not_eq_true'] at h
  induction j with
  | zero => omega
  | succ j ih =>
    have h1 := notInc_step h (k := j) (by omega)
    by_cases e : i = j
    · subst e; exact h1
    · have := ih (by omega) (by omega); omega
theorem inc_of {l : List Int} (h : ∀ i j, i < j → j < l.length → ix l i < ix l j) : incB l = true := by
  unfold incB
  rw [Bool.not_eq_true']
  have : ∀ m, m ≤ l.length - 1 → notInc l m = false := by
    intro m
    induction m with
    | zero => intro _; rfl
    | succ m ih =>
      intro hm
      rw [notInc, ih (by omega), Bool.false_or, decide_eq_false_iff_not]
      have := h m (m + 1) (by omega) (by omega)
      omega
  exact this _ (Nat.le_refl _)
def outV (v x : Int) : Bool := decide (x < 0 ∨ v ≤ x)
theorem outV_neg {n x : Int} (h : x < 0) : outV n x = true := by simp [outV, h]
theorem outV_pos {n x : Int} (h : ¬ x < 0) : outV n x = decide (n ≤ x) := by simp [outV, h]
theorem anyV {v : Int} {xs : List Int} (h : anyB (outV v) xs = false) : ∀ k, k < xs.length → 0 ≤ ix xs k ∧ ix xs k < v := by
  intro k hk
  unfold anyB at h
  rw [List.any_eq_false] at h
  have := h _ (ix_mem hk)
  simp [outV] at this
  omega
theorem anyV_of {v : Int} {xs : List Int} (h : ∀ k, k < xs.length → 0 ≤ ix xs k ∧ ix xs k < v) : anyB (outV v) xs = false := by
  unfold anyB
  rw [List.any_eq_false]
  intro x hx
  obtain ⟨i, hi, rfl⟩ := List.getElem_of_mem hx
  have := h i hi
  rw [ix_lt hi] at this
  simp [outV]; omega
/-- What is wrong with a set of numbers below v. -/
def setFault (v : Int) (xs : List Int) : Int := if v < 1 ∨ 60 < v then 1 else if anyB (outV v) xs then 1 else if incB xs then 0 else 2
structure IsSet (v : Int) (xs : List Int) : Prop where
  lo : 1 ≤ v
  hi : v ≤ 60
  rng : ∀ k, k < xs.length → 0 ≤ ix xs k ∧ ix xs k < v
  inc : incB xs = true
theorem set_of {v : Int} {xs : List Int} (h : setFault v xs = 0) : IsSet v xs := by
  unfold setFault at h
  by_cases h1 : v < 1 ∨ 60 < v
  · rw [if_pos h1] at h; cases h
  · rw [if_neg h1] at h
    cases h2 : anyB (outV v) xs
    · rw [h2] at h
      cases h3 : incB xs
      · rw [h3] at h; cases h
      · exact ⟨by omega, by omega, anyV h2, h3⟩
    · rw [h2] at h; cases h
theorem IsSet.fault {v : Int} {xs : List Int} (h : IsSet v xs) : setFault v xs = 0 := by
  have := h.lo; have := h.hi
  unfold setFault
  rw [if_neg (by omega), anyV_of h.rng, h.inc]; rfl
/-- A rising list of numbers below v is no longer than v. -/
theorem inc_len {v : Int} {xs : List Int} (hr : ∀ k, k < xs.length → 0 ≤ ix xs k ∧ ix xs k < v) (hi : incB xs = true) (hv : 0 ≤ v) : (xs.length : Int) ≤ v := by
  have key : ∀ k, k < xs.length → (k : Int) ≤ ix xs k := by
    intro k
    induction k with
    | zero => intro hk; exact (hr 0 hk).1
    | succ k ih =>
      intro hk
      have h1 := ih (by omega)
      have h2 := inc_lt hi (show k < k + 1 by omega) hk
      omega
  by_cases e : xs.length = 0
  · omega
  · have h1 := key (xs.length - 1) (by omega)
    have h2 := hr (xs.length - 1) (by omega)
    omega

set_option maxHeartbeats 400000 in
theorem indexFunc0_any (g : FuncId) (hg : ∀ (args : Array Value) (w : World), (callFunc g args).run Tryd.prog w = .ok (.enter g args) w) (p : Int → Bool) (v : Value) (xs : List Int) (w : World) (h : IntsAt w v xs)
    (hp : ∀ x, Calls Tryd.prog g #[.int .i64 x] w fun e w' => e = .returned (.bool (p x)) ∧ w = w') :
    Calls Tryd.prog 71 #[v, .func (.func g) #[] #[]] w fun e w' => e = .returned (.int .i64 (findI p xs)) ∧ w = w' := by
  have Hp := Lib.hid hp; clear hp
  obtain ⟨a, c, rfl, h1, h2, _, h3⟩ := h
  go_enter Tryd.func71, Tryd.ntmps71
  go_wp2
  go_loop [8] (fun i => ∃ k : Nat, k ≤ xs.length ∧ i = .int .i64 k ∧ anyB p (xs.take k) = false) (fun i => xs.length - (intOf i).toNat)
  case atStart => exact ⟨0, by omega, rfl, by simp [anyB]⟩
  case round =>
    obtain ⟨k, hk, rfl, hn⟩ := hrel
    have Hn := Lib.hid hn; clear hn
    by_cases hlt : k < xs.length
    · obtain ⟨b, o, rfl, hb, hc⟩ := h3 k hlt
      have hcell := hc k hlt
      clear hc h3
      cases ep : p (ix xs k)
      all_goals
        have Hep := Lib.hid ep; clear ep
        go_wp2_with (refine (Hp.out _).mono ?_; rw [Hep.out]; rintro e w' ⟨rfl, rfl⟩)
      · go_round
        case rel => exact ⟨k + 1, by omega, by go_num, by rw [any_take hlt, Hn.out, Hep.out]; rfl⟩
        case measure => simp [intOf]; omega
      · go_ret
        exact ⟨ret_int (findI_hit hlt Hn.out Hep.out).symm, rfl⟩
    · obtain rfl : k = xs.length := by omega
      go_wp2
      go_ret
      exact ⟨ret_int (findI_none (by simpa using Hn.out)).symm, rfl⟩
theorem containsFunc0_any (g : FuncId) (hg : ∀ (args : Array Value) (w : World), (callFunc g args).run Tryd.prog w = .ok (.enter g args) w) (p : Int → Bool) (v : Value) (xs : List Int) (w : World) (h : IntsAt w v xs)
    (hp : ∀ x, Calls Tryd.prog g #[.int .i64 x] w fun e w' => e = .returned (.bool (p x)) ∧ w = w') :
    Calls Tryd.prog 57 #[v, .func (.func g) #[] #[]] w fun e w' => e = .returned (.bool (anyB p xs)) ∧ w = w' := by
  have Hc := Lib.hid (indexFunc0_any g hg p v xs w h hp)
  clear hp h hg
  have e := findI_pos p xs
  have He := Lib.hid e; clear e
  go_enter Tryd.func57, Tryd.ntmps57
  go_wp2_with (go_at_call 71; refine (Hc.out).mono ?_; rintro e w' ⟨rfl, rfl⟩)
  go_ret
  exact ⟨ret_bool He.out, rfl⟩
end Go.Proofs.YtdbfpdhcaiiiaaaDoor

namespace Go.Proofs.YtdbfpdhcaiiiaaaDoor
open Go.RowKit

/-- v is nil or an array of the call's own, from block base on, whose rows are the call's own too; it reads as xss. -/
def OwnL (w : World) (base : Nat) (v : Value) (xss : List (List Int)) : Prop :=
  ∃ V : Nat → Value, w.ownsRow base 22 1 v xss.length ((List.range xss.length).map V) ∧ ∀ i, i < xss.length → Own w base 3 (V i) (rx xss i)
theorem ownL_nil (w : World) (base : Nat) : OwnL w base (.slice none 0 0) [] := ⟨fun _ => undef, World.ownsRow_nil w base _ 1, fun i hi => absurd hi (by simp)⟩
theorem own_below {w w' : World} {base : Nat} {t : TypeId} {v : Value} {xs : List Int} (h : Own w base t v xs) (hb : Below w.heap.size w w') : Own w' base t v xs :=
  World.ownsRow.kept h (row := none) ⟨hb.os, hb.tape, hb.output, hb.size, fun j hj _ => hb.block j hj⟩ (by cases hv : v.ownBlock <;> simp)
theorem OwnL.below {w w' : World} {base : Nat} {v : Value} {xss : List (List Int)} (h : OwnL w base v xss) (hb : Below w.heap.size w w') : OwnL w' base v xss := by
  obtain ⟨V, h1, h2⟩ := h
  exact ⟨V, World.ownsRow.kept h1 (row := none) ⟨hb.os, hb.tape, hb.output, hb.size, fun j hj _ => hb.block j hj⟩ (by cases hv : v.ownBlock <;> simp), fun i hi => own_below (h2 i hi) hb⟩
theorem OwnL.setFar {w : World} {base : Nat} {v : Value} {xss : List (List Int)} (h : OwnL w base v xss) {a : Addr} (ha : a.block < base) (u : Value) : OwnL (w.setCell a u) base v xss := by
  obtain ⟨V, h1, h2⟩ := h
  exact ⟨V, ownsRow_setCell_below h1 ha u, fun i hi => (h2 i hi).setFar ha u⟩
theorem OwnL.shape {w : World} {base : Nat} {v : Value} {xss : List (List Int)} (h : OwnL w base v xss) : ∃ a c, v = .slice a xss.length c := by
  obtain ⟨V, h1, _⟩ := h
  rcases h1.2 with ⟨rfl, e⟩ | ⟨g, cap, cur, rfl, _⟩
  · rw [e]; exact ⟨_, _, rfl⟩
  · exact ⟨_, _, rfl⟩
theorem OwnL.block {w : World} {base : Nat} {v : Value} {xss : List (List Int)} (h : OwnL w base v xss) : ∀ k, v.ownBlock = some k → base ≤ k ∧ k < w.heap.size := by
  obtain ⟨V, h1, _⟩ := h
  exact World.ownsRow.lt h1
theorem OwnL.rowsAt {w : World} {base : Nat} {v : Value} {xss : List (List Int)} (h : OwnL w base v xss) (hl : xss.length ≤ 1000000000) (hr : ∀ i, i < xss.length → (rx xss i).length ≤ 1000000000) : RowsAt w v xss := by
  obtain ⟨V, h1, h2⟩ := h
  rcases h1.2 with ⟨rfl, hn⟩ | ⟨g, cap, cur, rfl, hg, hh, hc, hm, hs, ht⟩
  · obtain rfl : xss = [] := List.eq_nil_of_length_eq_zero hn
    exact ⟨none, 0, V, rfl, Nat.le_refl _, by omega, fun _ => rfl, fun i hi => absurd hi (by simp)⟩
  · unfold maxLen at hm
    refine ⟨some ⟨g, 0, none⟩, cap, V, rfl, hc, by omega, (fun h => by cases h), fun i hi => ⟨(h2 i hi).intsAt (by have := hr i hi; omega), g, 0, rfl, (Array.getElem?_eq_some_iff.1 hh).1, fun j hj => ?_⟩⟩
    rw [Nat.zero_add, cell_of_row w g j cur _ (0, 0) hh]
    have e : (cur.toList.take (xss.length * 1))[j]? = ((List.range xss.length).map V)[j]? := by rw [ht]
    rw [List.getElem?_take_of_lt (by omega)] at e
    rw [← Array.getElem?_toList, e]
    simp [hj]
theorem IntsAt.cellsAs {w w' : World} {v : Value} {xs : List Int} {B : Nat} (h : IntsAt w v xs) (hf : FarV B v) (hc : ∀ b o, B ≤ b → w'.cell? ⟨b, o, none⟩ = w.cell? ⟨b, o, none⟩) (hz : w.heap.size ≤ w'.heap.size) : IntsAt w' v xs := by
  obtain ⟨a, c, rfl, h2, h3, h4, h5⟩ := h
  refine ⟨a, c, rfl, h2, h3, h4, fun i hi => ?_⟩
  obtain ⟨b, o, rfl, hb, hc'⟩ := h5 i hi
  have hB : B ≤ b := hf
  exact ⟨b, o, rfl, Nat.lt_of_lt_of_le hb hz, fun j hj => by rw [hc b (o + j) hB]; exact hc' j hj⟩
theorem OwnL.rowsFar {w w' : World} {base : Nat} {v : Value} {xss : List (List Int)} (h : OwnL w base v xss) (hl : xss.length ≤ 1000000000) (hr : ∀ i, i < xss.length → (rx xss i).length ≤ 1000000000)
    (hc : ∀ b o, base ≤ b → w'.cell? ⟨b, o, none⟩ = w.cell? ⟨b, o, none⟩) (hz : w.heap.size ≤ w'.heap.size) : RowsAt w' v xss := by
  obtain ⟨V, h1, h2⟩ := h
  rcases h1.2 with ⟨rfl, hn⟩ | ⟨g, cap, cur, rfl, hg, hh, hcap, hm, hs, ht⟩
  · obtain rfl : xss = [] := List.eq_nil_of_length_eq_zero hn
    exact ⟨none, 0, V, rfl, Nat.le_refl _, by omega, fun _ => rfl, fun i hi => absurd hi (by simp)⟩
  · unfold maxLen at hm
    refine ⟨some ⟨g, 0, none⟩, cap, V, rfl, hcap, by omega, (fun h => by cases h), fun i hi => ⟨((h2 i hi).intsAt (by have := hr i hi; omega)).cellsAs ((h2 i hi).far (Nat.le_refl _)) hc hz, g, 0, rfl, Nat.lt_of_lt_of_le (Array.getElem?_eq_some_iff.1 hh).1 hz, fun j hj => ?_⟩⟩
    rw [hc g _ hg, Nat.zero_add, cell_of_row w g j cur _ (0, 0) hh]
    have e : (cur.toList.take (xss.length * 1))[j]? = ((List.range xss.length).map V)[j]? := by rw [ht]
    rw [List.getElem?_take_of_lt (by omega)] at e
    rw [← Array.getElem?_toList, e]
    simp [hj]
/-- Two rows of different element types lie in different blocks. -/
theorem own_apart {w : World} {base base' : Nat} {t t' : TypeId} {s s' : Nat} {v v' : Value} {n n' : Nat} {xs xs' : List Value} (ht : t ≠ t') (h : w.ownsRow base t s v n xs) (h' : w.ownsRow base' t' s' v' n' xs') : v.ownBlock = none ∨ v.ownBlock ≠ v'.ownBlock := by
  rcases h.2 with ⟨rfl, _⟩ | ⟨g, cap, cur, rfl, hg, hh, _⟩
  · exact .inl rfl
  · right
    rcases h'.2 with ⟨rfl, _⟩ | ⟨g', cap', cur', rfl, hg', hh', _⟩
    · simp [Value.ownBlock]
    · simp only [Value.ownBlock, ne_eq, Option.some.injEq]
      intro e
      subst e
      rw [hh] at hh'
      injection hh' with e
      injection e with _ e
      exact ht e
theorem info_list : (Tryd.prog.info? 22).map (fun i => (i.zero, i.size, i.bytes)) = some (some (.slice none 0 0), 1, 24) := by kernel_rfl
theorem own_one {w : World} {base : Nat} {t : TypeId} {v : Value} {xs : List Int} (h : Own w base t v xs) : v.oneCell' = true := by
  rcases h.2 with ⟨rfl, _⟩ | ⟨g, cap, cur, rfl, _⟩ <;> rfl
theorem rx_snoc (xss : List (List Int)) (ys : List Int) {i : Nat} : rx (xss ++ [ys]) i = if i < xss.length then rx xss i else if i = xss.length then ys else [] := by
  by_cases h : i < xss.length
  · rw [if_pos h, rx_lt (by simp; omega), rx_lt h, List.getElem_append_left h]
  · rw [if_neg h]
    by_cases h2 : i = xss.length
    · rw [if_pos h2]; subst h2; simp [rx]
    · rw [if_neg h2]; unfold rx; rw [List.getD_eq_getElem?_getD, List.getElem?_eq_none (by simp; omega)]; rfl
set_option maxRecDepth 100000 in
/-- append of one row of the call's own to rows of the call's own. -/
theorem app_list {ops : Array Oper} {rest : List Oper} {o : Oper} {a : Act} {w : World} {Q : Exit → Act → World → Prop} (hgd : o.guard = none) (s x : Operand)
    (ho : o.op = .call { callee := .builtin .append, args := #[s, x], argTypes := #[45, 45] }) {base : Nat} {v : Value} {xss : List (List Int)} (hs : a.eval s = v) (hown : OwnL w base v xss)
    (g : Nat) {y : Value} {ys : List Int} (hy : Own w base 3 y ys) (hx : a.eval x = .slice (some ⟨g, 0, none⟩) 1 1) (hc : w.cell? ⟨g, 0, none⟩ = some y) (hl : xss.length < 1000000000) (hb : base ≤ w.heap.size)
    (h : ∀ v' w', OwnL w' base v' (xss ++ [ys]) → w.grownBy w' v.ownBlock → wpList Tryd.prog ops Q rest (a.put o.dst v') w') : wpList Tryd.prog ops Q (o :: rest) a w := by
  obtain ⟨i0, hi0, hz0, hz1, hz2⟩ := info_parts info_list
  obtain ⟨V, h1, h2⟩ := hown
  refine wpList_append_own w hgd s x 45 ho base 22 i0 _ 1 24 Tryd.underlying45 hi0 hz0 hz1 hz2 rfl (by omega) v xss.length _ hs h1 ⟨g, 0, none⟩ 1 1 [y] hx rfl (news_one hc) (fun u hu => by simp at hu; subst hu; exact own_one hy)
    (by unfold maxLen; omega) (by omega) hb ?_
  intro v' w' q1 q2 _
  have kept : ∀ {u : Value} {zs : List Int}, Own w base 3 u zs → Own w' base 3 u zs := fun hu => World.ownsRow.kept hu q2 (own_apart (by decide) hu h1)
  refine h v' w' ⟨fun i => if i < xss.length then V i else y, ?_, fun i hi => ?_⟩ q2
  · rw [List.length_append]
    have e : (List.range (xss.length + [ys].length)).map (fun i => if i < xss.length then V i else y) = (List.range xss.length).map V ++ [y] := by
      rw [List.length_singleton, List.range_succ, List.map_append]
      congr 1
      · apply List.map_congr_left
        intro i hi
        rw [if_pos (List.mem_range.1 hi)]
      · simp
    rw [e]; exact q1
  · rw [List.length_append, List.length_singleton] at hi
    rw [rx_snoc]
    by_cases e : i < xss.length
    · rw [if_pos e]; simp only [if_pos e]; exact kept (h2 i e)
    · rw [if_neg e, if_pos (by omega)]; simp only [if_neg e]; exact kept hy
end Go.Proofs.YtdbfpdhcaiiiaaaDoor

namespace Go.Proofs.YtdbfpdhcaiiiaaaDoor
open Go.RowKit

/-- Are two lists the same? -/
def eqI (xs ys : List Int) : Bool := decide (xs = ys)
theorem eqI_iff {xs ys : List Int} : eqI xs ys = true ↔ xs = ys := by simp [eqI]
theorem eqI_refl (xs : List Int) : eqI xs xs = true := by simp [eqI]
theorem eqI_len {xs ys : List Int} (h : xs.length ≠ ys.length) : eqI xs ys = false := by
  cases e : eqI xs ys
  · rfl
  · rw [eqI_iff] at e; subst e; exact absurd rfl h
theorem eqI_at {xs ys : List Int} {k : Nat} (h : ix xs k ≠ ix ys k) : eqI xs ys = false := by
  cases e : eqI xs ys
  · rfl
  · rw [eqI_iff] at e; subst e; exact absurd rfl h
theorem eqI_all {xs ys : List Int} (h : xs.length = ys.length) (ha : ∀ k, k < xs.length → ix xs k = ix ys k) : eqI xs ys = true := by
  rw [eqI_iff]
  apply List.ext_getElem h
  intro i h1 h2
  have := ha i h1
  rw [ix_lt h1, ix_lt h2] at this; exact this
theorem ext_ix {xs ys : List Int} (h : xs.length = ys.length) (ha : ∀ k, k < xs.length → ix xs k = ix ys k) : xs = ys := eqI_iff.1 (eqI_all h ha)

set_option maxHeartbeats 400000 in
theorem ints_any (v u : Value) (xs ys : List Int) (w : World) (h : IntsAt w v xs) (g : IntsAt w u ys) :
    Calls Tryd.prog 23 #[v, u] w fun e w' => e = .returned (.bool (eqI xs ys)) ∧ ∃ nd, w' = w.drewN nd := by
  obtain ⟨a, c, rfl, h1, h2, _, h3⟩ := h
  obtain ⟨b, d, rfl, g1, g2, _, g3⟩ := g
  by_cases hl : xs.length = ys.length
  · have hl' : (((xs.length : Nat) : Int) != ((ys.length : Nat) : Int)) = false := by rw [hl]; simp
    have HL := Lib.hid hl; clear hl
    go_enter Tryd.func23, Tryd.ntmps23
    go_wp2
    clear hl'
    go_loopw [5] (fun i wr => ∃ k nd : Nat, k ≤ xs.length ∧ i = .int .i64 k ∧ (∀ j, j < k → ix xs j = ix ys j) ∧ wr = w.drewN nd) (fun i _ => xs.length - (intOf i).toNat)
    case atStart => exact ⟨0, 0, by omega, rfl, fun j hj => by omega, rfl⟩
    case round =>
      obtain ⟨k, nd, hk, rfl, ha, rfl⟩ := hrel
      have HA := Lib.hid ha; clear ha
      by_cases hlt : k < xs.length
      · have hlt2 : k < ys.length := by have := HL.out; omega
        obtain ⟨b1, o1, rfl, hb1, hc1⟩ := h3 k hlt
        obtain ⟨b2, o2, rfl, hb2, hc2⟩ := g3 k hlt2
        have c1 := hc1 k hlt
        have c2 := hc2 k hlt2
        have i1 : ((k : Nat) : Int) < ((xs.length : Nat) : Int) := by omega
        have i2 : ((k : Nat) : Int) < ((ys.length : Nat) : Int) := by omega
        clear hc1 hc2 h3 g3
        cases e : (ix xs k != ix ys k)
        · have He : Hid (ix xs k = ix ys k) := by show _ = _; simpa using e
          go_wp2
          go_quiet (fail)
          go_wp2
          go_roundw
          case rel => exact ⟨k + 1, _, by omega, by go_num, fun j hj => by
            by_cases ej : j = k
            · subst ej; exact He.out
            · exact HA.out j (by omega), rfl⟩
          case measure => simp [intOf]; omega
        · have He : Hid (ix xs k ≠ ix ys k) := by show _ ≠ _; simpa using e
          go_wp2
          go_quiet (fail)
          go_wp2
          go_ret
          exact ⟨ret_bool (eqI_at He.out).symm, _, World.drewN_drewN _ _ _⟩
      · obtain rfl : k = xs.length := by omega
        go_wp2
        go_ret
        exact ⟨ret_bool (eqI_all HL.out HA.out).symm, _, rfl⟩
  · have hl' : (((xs.length : Nat) : Int) != ((ys.length : Nat) : Int)) = true := by simp; omega
    have HL := Lib.hid hl; clear hl
    go_enter Tryd.func23, Tryd.ntmps23
    go_wp2
    go_ret
    exact ⟨ret_bool (eqI_len HL.out).symm, 0, rfl⟩
theorem ints_bel (v u : Value) (xs ys : List Int) (w : World) (h : IntsAt w v xs) (g : IntsAt w u ys) :
    Calls Tryd.prog 23 #[v, u] w fun e w' => e = .returned (.bool (eqI xs ys)) ∧ Below w.heap.size w w' := by
  refine (ints_any v u xs ys w h g).mono ?_
  rintro e w' ⟨rfl, nd, rfl⟩
  exact ⟨rfl, below_D _ _⟩
end Go.Proofs.YtdbfpdhcaiiiaaaDoor
