/-
  Contract: latin.Extend. No condition.
-/
import Derived.Test.YtkmfhnjadpdkeaaNext
import Derived.Test.YtkmfhnjadpdkeaaCyclic2
namespace Go.Proofs.Ytkmfhnjadpdkeaa
open Go.RowKit

/-- What is wrong with one row, with the first of some rows. -/
def rowF (n : Nat) (xs : List Int) : Int := if xs.length ≠ n then 2 else if anyB (outB n) xs then 1 else 0
def rowsF (n : Nat) (xss : List (List Int)) : Nat → Int
  | 0 => 0
  | k + 1 => if rowsF n xss k = 0 then rowF n (rx xss k) else rowsF n xss k
def flat (xss : List (List Int)) : Nat → List Int
  | 0 => []
  | k + 1 => flat xss k ++ rx xss k
def extFault (n : Int) (xss : List (List Int)) : Int :=
  if n < 1 ∨ 8 < n then 1 else if n < xss.length then 3 else if rowsF n.toNat xss xss.length = 0 then (if onceB n.toNat (flat xss xss.length) then 0 else 6) else rowsF n.toNat xss xss.length
theorem rowsF_next {n : Nat} {xss : List (List Int)} {k : Nat} (h : rowsF n xss k = 0) : rowsF n xss (k + 1) = rowF n (rx xss k) := by rw [rowsF, if_pos h]
theorem rowsF_hit {n : Nat} {xss : List (List Int)} {k : Nat} {e : Int} (h : rowsF n xss k = 0) (he : rowF n (rx xss k) = e) (h0 : e ≠ 0) : ∀ {m : Nat}, k < m → rowsF n xss m = e
  | 0, hk => by omega
  | m + 1, hk => by
    by_cases e2 : k = m
    · subst e2; rw [rowsF_next h, he]
    · rw [rowsF, rowsF_hit h he h0 (m := m) (by omega), if_neg h0]
theorem flat_ok {n : Nat} {xss : List (List Int)} : ∀ {k : Nat}, rowsF n xss k = 0 → (flat xss k).length = k * n ∧ InN n (flat xss k)
  | 0, _ => ⟨by simp [flat], fun x hx => by simp [flat] at hx⟩
  | k + 1, h => by
    have h0 : rowsF n xss k = 0 := by
      rw [rowsF] at h
      by_cases e : rowsF n xss k = 0
      · exact e
      · rw [if_neg e] at h; exact h
    obtain ⟨h1, h2⟩ := flat_ok h0
    rw [rowsF_next h0] at h
    unfold rowF at h
    by_cases e : (rx xss k).length ≠ n
    · rw [if_pos e] at h; cases h
    · rw [if_neg e] at h
      cases e2 : anyB (outB n) (rx xss k)
      · have h3 := any_out e2
        refine ⟨by rw [flat, List.length_append, h1, Nat.add_mul]; omega, fun x hx => ?_⟩
        rcases List.mem_append.1 hx with hx | hx
        · exact h2 x hx
        · obtain ⟨i, hi, rfl⟩ := List.getElem_of_mem hx
          have := h3 i hi
          rw [ix_lt hi] at this; exact this
      · rw [e2] at h; cases h
theorem ext_rect {n : Nat} {xss : List (List Int)} (h : rowsF n xss xss.length = 0) (ho : onceB n (flat xss xss.length) = true) : Rect n xss.length (flat xss xss.length) :=
  ⟨(flat_ok h).1, (flat_ok h).2, ho⟩

/-- append of a row that came in. -/
theorem app_row {ops : Array Oper} {rest : List Oper} {o : Oper} {a : Act} {w : World} {Q : Exit → Act → World → Prop} (hgd : o.guard = none) (s x : Operand)
    (ho : o.op = .call { callee := .builtin .append, args := #[s, x], argTypes := #[22, 22] }) {base : Nat} {v : Value} {xs : List Int} (hs : a.eval s = v) (hown : Own w base 3 v xs)
    {q : Option Addr} {c : Nat} {ys : List Int} (hI : IntsAt w (.slice q ys.length c) ys) (hx : a.eval x = .slice q ys.length c) (hy : 0 < ys.length) (hl : xs.length + ys.length < 1000000000) (hb : base ≤ w.heap.size)
    (h : ∀ v' w', Own w' base 3 v' (xs ++ ys) → w.grownBy w' v.ownBlock → wpList Try.prog ops Q rest (a.put o.dst v') w') : wpList Try.prog ops Q (o :: rest) a w := by
  obtain ⟨i0, hi0, hz0, hz1, hz2⟩ := info_parts info_int
  obtain ⟨a', c', e, h2, h3, h4, h5⟩ := hI
  injection e with e1 e2 e3
  subst e1; subst e3
  obtain ⟨b, off, rfl, hbb, hc⟩ := h5 0 hy
  refine wpList_append_own w hgd s x 22 ho base 3 i0 _ 1 8 Try.underlying22 hi0 hz0 hz1 hz2 rfl (by omega) v xs.length (cellsOf xs) hs hown ⟨b, off, none⟩ ys.length c (cellsOf ys) hx (by rw [cellsOf_len]; omega)
    (fun j u hu => ?_) (fun u hu => ?_) (by unfold maxLen; omega) (by omega) hb ?_
  · have hj : j < ys.length := by
      obtain ⟨q, _⟩ := List.getElem?_eq_some_iff.1 hu
      rw [cellsOf_len] at q; exact q
    rw [Addr.add_lit, hc j hj]
    unfold cellsOf at hu
    rw [List.getElem?_map, List.getElem?_eq_getElem hj] at hu
    rw [ix_lt hj]; exact hu
  · unfold cellsOf at hu
    obtain ⟨y, _, rfl⟩ := List.mem_map.1 hu
    rfl
  · intro v' w' h1 h2 _
    refine h v' w' ?_ h2
    unfold Own
    rw [show cellsOf (xs ++ ys) = cellsOf xs ++ cellsOf ys by simp [cellsOf], List.length_append]
    exact h1

theorem ext1_any (x n : Int) (b : Nat) (w : World) (hc : w.cell? ⟨b, 0, none⟩ = some (.int .i64 n)) :
    Calls Try.prog 57 #[.int .i64 x, .pointer (some ⟨b, 0, none⟩)] w fun e w' => e = .returned (.bool (outB n x)) ∧ w = w' := by
  by_cases h1 : x < 0
  · have ed : decide (x < 0) = true := by simpa using h1
    go_enter Try.func57, Try.ntmps57
    go_wp2
    go_ret
    exact ⟨ret_bool (outB_neg h1).symm, rfl⟩
  · have Ho := Lib.hid (outB_pos (n := n) h1)
    have ed : decide (x < 0) = false := by simpa using h1
    cases e2 : decide (n ≤ x)
    all_goals
      rw [e2] at Ho
      go_enter Try.func57, Try.ntmps57
      go_wp2
      go_ret
      exact ⟨ret_bool Ho.out.symm, rfl⟩
theorem enters_ext (args : Array Value) (w : World) : (callFunc 57 args).run Try.prog w = .ok (.enter 57 args) w := by kernel_rfl

/-- The call's own cells: its side, boxed; its result. -/
structure Zsq (w wr : World) (n : Nat) : Prop where
  side : wr.cell? ⟨w.heap.size, 0, none⟩ = some (.int .i64 n)
  res : Arr wr (w.heap.size + 1) 2 (fun j => if j = 0 then .int .i64 0 else .slice none 0 0)
  size : w.heap.size + 2 ≤ wr.heap.size
  bel : Below w.heap.size w wr
theorem Zsq.next {w wr w' : World} {n : Nat} (h : Zsq w wr n) (hb : Below wr.heap.size wr w') : Zsq w w' n := by
  have hz := hb.size
  have hs := h.size
  exact ⟨by rw [hb.cell (p := ⟨w.heap.size, 0, none⟩) (show w.heap.size < wr.heap.size by omega)]; exact h.side, h.res.below hb, by omega, belowTrans h.bel hb⟩
theorem Zsq.grown {w wr w' : World} {n : Nat} {v : Value} (h : Zsq w wr n) (hg : wr.grownBy w' v.ownBlock) (hb : ∀ k, v.ownBlock = some k → w.heap.size + 2 ≤ k) : Zsq w w' n := by
  have hz := hg.size
  have hs := h.size
  refine ⟨by rw [(far_cell hg (base := w.heap.size + 2) hb (by omega) (by omega)).1]; exact h.side, ?_, by omega, h.bel.grown hg (by omega) (fun k hk => by have := hb k hk; omega)⟩
  exact Arr.kept h.res (fun o' => (far_cell hg (base := w.heap.size + 2) hb (by omega) (by omega)).1) (fun o' => (far_cell hg (base := w.heap.size + 2) hb (by omega) (by omega)).2) hz
theorem Zsq.new (w : World) (n : Nat) : Zsq w ((w.alloc (.cells #[.int .i64 n] 3)).alloc (.cells #[.int .i64 0, .slice none 0 0] 24)) n := by
  refine ⟨?_, ?_, by simp, belowTrans (below_box _ _) (below_box _ _)⟩
  · rw [World.cell?_alloc_old _ _ _ (by simp), World.cell?_alloc_new]; rfl
  · have := arr_sq (w.alloc (.cells #[.int .i64 n] 3)) (.int .i64 0) (.slice none 0 0) 24
    rw [World.size_alloc] at this; exact this

/-- What Extend answers where a fault is found. -/
def ExtNo (e0 : Int) (w : World) (e : Ending) (w' : World) : Prop := e = .returned (.tuple #[.agg #[.int .i64 0, .slice none 0 0], .int .i64 e0]) ∧ Below w.heap.size w w'
theorem Zsq.ret {w wr : World} {n : Nat} (h : Zsq w wr n) {tmps : Array Value} {e0 : Int} (hp : tmps.getD 4 undef = .pointer (some ⟨w.heap.size + 1, 0, none⟩)) (hu : tmps.getD 5 undef = .int .i64 e0) :
    (results Try.f26 tmps).run Try.prog ((wr.setCell ⟨w.heap.size + 1, 0, none⟩ (.int .i64 0)).setCell ⟨w.heap.size + 1, 1, none⟩ (.slice none 0 0)) = .ok (.tuple #[.agg #[.int .i64 0, .slice none 0 0], .int .i64 e0]) ((wr.setCell ⟨w.heap.size + 1, 0, none⟩ (.int .i64 0)).setCell ⟨w.heap.size + 1, 1, none⟩ (.slice none 0 0)) := by
  rw [results_arrT (p := 4) (u := 5) rfl ((h.res.set (show 0 < 2 by omega) (.int .i64 0)).set (show 1 < 2 by omega) (.slice none 0 0)) Try.underlying24 rfl (by kernel_rfl) hp, hu]; rfl
theorem Zsq.no {w wr : World} {n : Nat} (h : Zsq w wr n) (e0 : Int) : ExtNo e0 w (.returned (.tuple #[.agg #[.int .i64 0, .slice none 0 0], .int .i64 e0])) ((wr.setCell ⟨w.heap.size + 1, 0, none⟩ (.int .i64 0)).setCell ⟨w.heap.size + 1, 1, none⟩ (.slice none 0 0)) :=
  ⟨rfl, (h.bel.setCell (Nat.le_succ _) _).setCell (Nat.le_succ _) _⟩

set_option maxHeartbeats 1000000 in
theorem extend_side (n : Int) (v : Value) (w : World) (hs : n < 1 ∨ 8 < n) :
    Calls Try.prog 26 #[.int .i64 n, v] w (ExtNo 1 w) := by
  have hsd : sideB n = false := by simp [sideB]; omega
  have Hs := Lib.hid (side_any n); rw [hsd] at Hs; clear hsd
  go_enter Try.func26, Try.ntmps26
  go_wp2_with fail
  refine (Hs.out _).mono ?_
  rintro e w1 ⟨rfl, rfl⟩
  go_wp2_with fail
  have hA := arr_sq (w.alloc (.cells #[.int .i64 n] 3)) (.int .i64 0) (.slice none 0 0) 24
  rw [World.size_alloc] at hA
  refine bodyPost_ret (results_arrT (p := 4) (u := 5) rfl hA Try.underlying24 rfl (by kernel_rfl) rfl) rfl ⟨rfl, belowTrans (below_box _ _) (below_box _ _)⟩

set_option maxHeartbeats 1000000 in
theorem extend_full (n : Nat) (v : Value) (xss : List (List Int)) (w : World) (h : RowsAt w v xss) (h1 : 1 ≤ n) (h8 : n ≤ 8) (hr : n < xss.length) :
    Calls Try.prog 26 #[.int .i64 n, v] w (ExtNo 3 w) := by
  have hsd : sideB n = true := by simp [sideB]; omega
  have Hs := Lib.hid (side_any n); rw [hsd] at Hs; clear hsd
  obtain ⟨a, c, V, rfl, q1, q2, _⟩ := h
  go_enter Try.func26, Try.ntmps26
  go_wp2_with fail
  refine (Hs.out _).mono ?_
  rintro e w1 ⟨rfl, rfl⟩
  go_wp2_with fail
  have hA := arr_sq (w.alloc (.cells #[.int .i64 n] 3)) (.int .i64 0) (.slice none 0 0) 24
  rw [World.size_alloc] at hA
  refine bodyPost_ret (results_arrT (p := 4) (u := 5) rfl hA Try.underlying24 rfl (by kernel_rfl) rfl) rfl ⟨rfl, belowTrans (below_box _ _) (below_box _ _)⟩

def ExtYes (n : Nat) (ys : List Int) (w : World) (e : Ending) (w' : World) : Prop := ∃ v, e = .returned (.tuple #[.agg #[.int .i64 n, v], .int .i64 0]) ∧ IntsAt w' v ys ∧ Below w.heap.size w w'
def lenV : Value → Nat
  | .slice _ l _ => l
  | _ => 0
/-- What Extend answers. -/
def ExtPost (n : Nat) (xss : List (List Int)) (w : World) (e : Ending) (w' : World) : Prop :=
  if rowsF n xss xss.length = 0 then
    (if onceB n (flat xss xss.length) then ∃ ys, goOn n ((n - xss.length) * n) (flat xss xss.length) = some ys ∧ Rect n n ys ∧ ExtYes n ys w e w' else ExtNo 6 w e w')
  else ExtNo (rowsF n xss xss.length) w e w'
theorem ExtPost.row {n : Nat} {xss : List (List Int)} {k : Nat} {e0 : Int} {w w' : World} {e : Ending} (h0 : rowsF n xss k = 0) (he : rowF n (rx xss k) = e0) (hne : e0 ≠ 0) (hk : k < xss.length) (h : ExtNo e0 w e w') : ExtPost n xss w e w' := by
  unfold ExtPost
  have := rowsF_hit h0 he hne hk
  rw [this, if_neg hne]; exact h

set_option maxRecDepth 100000 in
set_option maxHeartbeats 1000000 in
theorem extend_any (n : Nat) (v : Value) (xss : List (List Int)) (w : World) (h : RowsAt w v xss) (h1 : 1 ≤ n) (h8 : n ≤ 8) (hr : xss.length ≤ n) :
    Calls Try.prog 26 #[.int .i64 n, v] w (ExtPost n xss w) := by
  have hsd : sideB n = true := by simp [sideB]; omega
  have Hs := Lib.hid (side_any n); rw [hsd] at Hs; clear hsd
  have HZ0 := Lib.hid (Zsq.new w n)
  obtain ⟨a, c, V, rfl, q1, q2, _, q3⟩ := h
  have HR := Lib.hid q3; clear q3
  have hd : decide (n < xss.length) = false := by simp; omega
  go_enter Try.func26, Try.ntmps26
  go_wp2_with fail
  refine (Hs.out _).mono ?_
  rintro e w1 ⟨rfl, rfl⟩
  clear Hs
  go_wp2_with fail
  go_loopw [6, 24] (fun sc s wr => ∃ (k : Nat) (v : Value), k ≤ xss.length ∧ s = .int .i64 k ∧ sc = v ∧ rowsF n xss k = 0 ∧ Own wr (w.heap.size + 2) 3 v (flat xss k) ∧ Zsq w wr n) (fun _ s _ => xss.length - (intOf s).toNat)
  case atStart => exact ⟨0, _, by omega, rfl, rfl, rfl, own_nil _ _ _, HZ0.out⟩
  case round =>
    clear HZ0
    obtain ⟨k, v, hk, rfl, hsc, hf, ho, hz⟩ := hrel
    subst hsc
    have HF := Lib.hid hf; have HO := Lib.hid ho; have HZ := Lib.hid hz
    have z1 := hz.side
    have z2 := hz.size
    have r0 := hz.res.cell (show 0 < 2 by omega); have r1 := hz.res.cell (show 1 < 2 by omega)
    have t0 := hz.res.free (show 0 < 2 by omega); have t1 := hz.res.free (show 1 < 2 by omega)
    clear hf ho hz
    by_cases hlt : k < xss.length
    · obtain ⟨hrow, b, o, rfl, hb, hc⟩ := HR.out k hlt
      have hcell := hc k hlt
      rw [← (bcell HZ.out.bel).1 _ _ hb] at hcell
      have HI := Lib.hid (hrow.below HZ.out.bel)
      obtain ⟨ra, rc, hV, e1, e2, _⟩ := hrow
      rw [hV] at hcell HI
      clear hc hV
      by_cases hl : (rx xss k).length = n
      · have hl' : ((((rx xss k).length : Nat) : Int) != (n : Int)) = false := by rw [hl]; simp
        have hcf := containsFunc_any 57 enters_ext (.pointer (some ⟨w.heap.size, 0, none⟩)) (outB n) _ (rx xss k) wr HI.out (fun x => ext1_any x n _ _ z1)
        cases ea : anyB (outB n) (rx xss k)
        · have Hrow : Hid (rowF n (rx xss k) = 0) := by show _ = _; unfold rowF; rw [if_neg (by simpa using hl), ea]; rfl
          rw [ea] at hcf
          have Hcf := Lib.hid hcf
          have hflen := (flat_ok HF.out).1
          have hkn : k * n ≤ 64 := Nat.mul_le_mul (show k ≤ 8 by omega) h8
          have hsum : (flat xss k).length + (rx xss k).length < 1000000000 := by omega
          have hpos : 0 < (rx xss k).length := by omega
          clear hcf ea hl hflen hkn
          have hbase : w.heap.size + 2 ≤ wr.heap.size := z2
          go_wp2_with fail
          refine (Hcf.out).mono ?_
          rintro e w' ⟨rfl, rfl⟩
          go_wp2_with (at_builtin; refine app_row rfl _ _ rfl rfl HO.out HI.out rfl hpos hsum hbase ?_; intro v' w1 hown1 hgrow)
          have HZ1 := Lib.hid (HZ.out.grown hgrow (fun k hk => (HO.out.block k hk).1))
          have HO1 := Lib.hid hown1
          clear hown1 hgrow
          go_roundw
          case rel => exact ⟨k + 1, _, by omega, by go_num, rfl, by rw [rowsF_next HF.out, Hrow.out], HO1.out, HZ1.out⟩
          case measure => simp [intOf]; omega
        · have Hrow : Hid (rowF n (rx xss k) = 1) := by show _ = _; unfold rowF; rw [if_neg (by simpa using hl), ea]; rfl
          rw [ea] at hcf
          have Hcf := Lib.hid hcf
          clear hcf ea hl
          go_wp2_with fail
          refine (Hcf.out).mono ?_
          rintro e w' ⟨rfl, rfl⟩
          go_wp2_with fail
          exact bodyPost_ret (HZ.out.ret rfl rfl) rfl (ExtPost.row HF.out Hrow.out (by decide) hlt (HZ.out.no 1))
      · have hl' : ((((rx xss k).length : Nat) : Int) != (n : Int)) = true := by simp; omega
        have Hrow : Hid (rowF n (rx xss k) = 2) := by show _ = _; unfold rowF; rw [if_pos hl]
        clear hl
        go_wp2_with fail
        exact bodyPost_ret (HZ.out.ret rfl rfl) rfl (ExtPost.row HF.out Hrow.out (by decide) hlt (HZ.out.no 2))
    · obtain rfl : k = xss.length := by omega
      obtain ⟨hfl, hfr⟩ := flat_ok HF.out
      have HF0 := Lib.hid HF.out
      have hkn : xss.length * n ≤ 64 := Nat.mul_le_mul (show xss.length ≤ 8 by omega) h8
      have hkn8 : xss.length * n ≤ n * 8 := by rw [Nat.mul_comm n 8]; exact Nat.mul_le_mul (by omega) (Nat.le_refl n)
      have HI := Lib.hid (HO.out.intsAt (by omega))
      have Htw := Lib.hid (twice_any _ _ n wr HI.out h1 h8 (fun j hj => by have := hfr _ (ix_mem hj); omega) (by omega))
      clear hfl
      cases eo : onceB n (flat xss xss.length)
      · have Heo := Lib.hid eo
        rw [eo] at Htw
        clear eo
        go_wp2_with fail
        refine (Htw.out).mono ?_
        rintro e w2 ⟨rfl, hb⟩
        have HZ2 := Lib.hid (HZ.out.next hb); clear hb
        have z1' := HZ2.out.side
        have z2' := HZ2.out.size
        have r0' := HZ2.out.res.cell (show 0 < 2 by omega); have r1' := HZ2.out.res.cell (show 1 < 2 by omega)
        have t0' := HZ2.out.res.free (show 0 < 2 by omega); have t1' := HZ2.out.res.free (show 1 < 2 by omega)
        go_wp2_with fail
        refine bodyPost_ret (HZ2.out.ret rfl rfl) rfl ?_
        unfold ExtPost
        rw [HF.out, Heo.out]
        exact HZ2.out.no 6
      · have Heo := Lib.hid eo
        have HRect := Lib.hid (ext_rect HF.out eo)
        rw [eo] at Htw
        clear eo
        go_wp2_with fail
        refine (Htw.out).mono ?_
        rintro e w2 ⟨rfl, hb⟩
        have HZ2 := Lib.hid (HZ.out.next hb)
        have HI2 := Lib.hid (HI.out.below hb); clear hb
        go_wp2_with fail
        go_loopw [6] (fun sc wr => ∃ (r : Nat) (ys : List Int) (v : Value), r ≤ n ∧ sc = v ∧ FarV (w.heap.size + 2) v ∧ IntsAt wr v ys ∧ Rect n r ys ∧ goOn n ((n - xss.length) * n) (flat xss xss.length) = goOn n ((n - r) * n) ys ∧ Zsq w wr n) (fun sc _ => 100 - lenV sc)
        case atStart => exact ⟨xss.length, _, _, hr, rfl, HO.out.far (Nat.le_refl _), HI2.out, HRect.out, rfl, HZ2.out⟩
        case round =>
          clear HI2 HZ2 HZ HO HRect HF HI HR
          obtain ⟨r, ys, v, hrn, hsc, hfar, hI, hRect, hgo, hz⟩ := hrel
          subst hsc
          obtain ⟨ya, yc, rfl, hyc, _⟩ := id hI
          have HFar := Lib.hid hfar; clear hfar
          have HI := Lib.hid hI; have HRect := Lib.hid hRect; have HGo := Lib.hid hgo; have HZ := Lib.hid hz
          have z1 := hz.side
          have z2 := hz.size
          have r0 := hz.res.cell (show 0 < 2 by omega); have r1 := hz.res.cell (show 1 < 2 by omega)
          have t0 := hz.res.free (show 0 < 2 by omega); have t1 := hz.res.free (show 1 < 2 by omega)
          have hlen := hRect.len
          clear hI hRect hgo hz
          have hm := int_val (wrap_mul8 (i := n) (n := n) (by omega) (by omega))
          have hnn : n * n ≤ 64 := Nat.mul_le_mul h8 h8
          by_cases hlt : r < n
          · obtain ⟨k, hk⟩ : ∃ k, r + (k + 1) = n := ⟨n - r - 1, by omega⟩
            obtain ⟨zs, g1, g2, g3⟩ := HRect.out.step hk
            have HG2 := Lib.hid g2
            have HG3 : Hid (goOn n ((n - xss.length) * n) (flat xss xss.length) = goOn n ((n - (r + 1)) * n) zs) := by
              show _ = _
              rw [HGo.out, show n - r = k + 1 by omega, g3, show n - (r + 1) = k by omega]
            have hls : ys.length < n * n := by
              have : (r + 1) * n ≤ n * n := Nat.mul_le_mul (by omega) (Nat.le_refl n)
              rw [Nat.add_mul] at this; omega
            have hzl : zs.length = r * n + n := by rw [g2.len, Nat.add_mul, Nat.one_mul]
            have hzl2 : ys.length < zs.length := by omega
            have HC := Lib.hid (next_any n r h8 hlt n 0 _ ys wr (by omega) (by omega) HI.out)
            rw [g1] at HC
            clear g1 g2 g3 hlen hzl hk
            generalize n * n = N at *
            go_wp2_with fail
            refine (HC.out).mono ?_
            intro e w3 hp
            obtain ⟨v3, rfl, hI3, hb3, hfar⟩ := hp
            have HFar3 := Lib.hid (hfar _ z2 HFar.out); clear hfar
            have HI3 := Lib.hid hI3
            have HZ3 := Lib.hid (HZ.out.next hb3)
            obtain ⟨za, zc, rfl, hzc, _⟩ := hI3
            clear hb3
            go_wp2_with fail
            go_roundw
            case rel => exact ⟨r + 1, zs, _, by omega, rfl, HFar3.out, HI3.out, HG2.out, HG3.out, HZ3.out⟩
            case measure => simp [lenV]; omega
          · obtain rfl : r = n := by omega
            have hls : ¬ (((ys.length : Nat) : Int) < ((r * r : Nat) : Int)) := by omega
            clear hlen
            generalize hN : r * r = N at *
            clear hN
            go_wp2_with fail
            refine bodyPost_ret (results_arrT (p := 4) (u := 5) rfl ((HZ.out.res.set (show 0 < 2 by omega) (.int .i64 r)).set (show 1 < 2 by omega) (.slice ya ys.length yc)) Try.underlying24 rfl (by kernel_rfl) rfl) rfl ?_
            unfold ExtPost
            rw [HF0.out, Heo.out]
            refine ⟨ys, by rw [HGo.out, Nat.sub_self, Nat.zero_mul]; rfl, HRect.out, .slice ya ys.length yc, rfl, ?_, (HZ.out.bel.setCell (Nat.le_succ _) _).setCell (Nat.le_succ _) _⟩
            exact (HI.out.setFar HFar.out (by simp) _).setFar HFar.out (by simp) _

end Go.Proofs.Ytkmfhnjadpdkeaa
