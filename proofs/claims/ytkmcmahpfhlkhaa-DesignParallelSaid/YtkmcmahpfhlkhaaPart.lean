/-
  Contract: (*design.parter).part, with its memo. No condition.
-/
import Derived.StillTailTactics
import Derived.Deep.RegionHeld3
import Derived.Test.YtkmcmahpfhlkhaaCutKey
import Derived.Test.YtkmcmahpfhlkhaaParallelOf
namespace Go.Proofs.Ytkmcmahpfhlkhaa
open Go.RowKit Go.Maps

theorem intsAt_one (w : World) (x : Int) (t : TypeId) : IntsAt (w.alloc (.cells #[.int .i64 x] t)) (.slice (some ⟨w.heap.size, 0, none⟩) 1 1) [x] := by
  refine ⟨some ⟨w.heap.size, 0, none⟩, 1, rfl, Nat.le_refl _, by omega, (fun h => by cases h), fun i hi => ⟨w.heap.size, 0, rfl, by simp, fun j hj => ?_⟩⟩
  rw [World.cell?_alloc_new, Nat.zero_add]
  simp only [List.length_cons, List.length_nil] at hj
  obtain rfl : j = 0 := by omega
  rfl
set_option maxRecDepth 100000 in
/-- append of a slice that holds some to a slice of one whose capacity is one. -/
theorem app_more {ops : Array Oper} {rest : List Oper} {o : Oper} {a : Act} {w : World} {Q : Exit → Act → World → Prop} (hgd : o.guard = none) (s x : Operand)
    (ho : o.op = .call { callee := .builtin .append, args := #[s, x], argTypes := #[27, 27] }) {b : Addr} {z : Int} (hs : a.eval s = .slice (some b) 1 1) (hz : IntsAt w (.slice (some b) 1 1) [z])
    {q : Option Addr} {c : Nat} {ys : List Int} (hI : IntsAt w (.slice q ys.length c) ys) (hx : a.eval x = .slice q ys.length c) (hy : 0 < ys.length) (hl : ys.length < 100000000)
    (h : ∀ v' w', Own w' w.heap.size 3 v' (z :: ys) → w.grownBy w' none → wpList Try.prog ops Q rest (a.put o.dst v') w') : wpList Try.prog ops Q (o :: rest) a w := by
  obtain ⟨i0, hi0, hz0, hz1, hz2⟩ := info_parts info_int
  obtain ⟨a', c', e, h2, h3, h4, h5⟩ := hI
  injection e with e1 e2 e3
  subst e1; subst e3
  obtain ⟨p, off, rfl, hbb, hc⟩ := h5 0 hy
  obtain ⟨_, _, ez, _, _, _, g5⟩ := hz
  injection ez with ez1 _ _
  obtain ⟨p1, o1, rz, _, g6⟩ := g5 0 (by simp)
  rw [← ez1] at rz
  injection rz with rz
  subst rz
  refine wpList_append_grows w hgd s x 27 ho 3 i0 _ 1 8 Try.underlying27 hi0 hz0 hz1 hz2 rfl (by omega) (some ⟨p1, o1, none⟩) 1 1 (cellsOf [z]) hs
    (fun hn => by cases hn) (by rw [cellsOf_len]; rfl) (fun p hp j u hu => ?_) ⟨p, off, none⟩ ys.length c (cellsOf ys) hx (by rw [cellsOf_len]; omega) (fun j u hu => ?_) (fun u hu => ?_) (by omega) (by unfold maxLen; omega) (by omega) ?_
  · have hj : j < 1 := by
      obtain ⟨q, _⟩ := List.getElem?_eq_some_iff.1 hu
      rw [cellsOf_len] at q; exact q
    obtain rfl : j = 0 := by omega
    injection hp with hp
    subst hp
    rw [Addr.add_lit, g6 0 (by simp)]
    simpa [cellsOf, ix] using hu
  · have hj : j < ys.length := by
      obtain ⟨q, _⟩ := List.getElem?_eq_some_iff.1 hu
      rw [cellsOf_len] at q; exact q
    rw [Addr.add_lit, hc j hj]
    unfold cellsOf at hu
    rw [List.getElem?_map, List.getElem?_eq_getElem hj] at hu
    rw [ix_lt hj]; exact hu
  · unfold cellsOf at hu
    obtain ⟨y, _, rfl⟩ := List.mem_map.1 hu
    rfl
  · intro v' w' h1 h2
    refine h v' w' ?_ h2
    unfold Own
    have e : cellsOf (z :: ys) = cellsOf [z] ++ cellsOf ys := rfl
    rw [e, List.length_cons, Nat.add_comm]
    exact h1
theorem zero_intC (w : World) : (zeroValue 3).run Try.prog w = .ok (.int .i64 0) w := by kernel_rfl
theorem cut_look {w : World} {b n : Nat} {D : DataW Unit} (h : w.ownsMap Try.prog 54 (plainElem Try.prog 3) b n D) {i S : Nat} (hi : i ≤ 1000) (hS : S < 1152921504606846976) :
    ∃ c : Int, (Instr.lookup 46 (.map (some b)) (.agg #[.int .i64 (i : Int), .int .u64 (S : Int)]) true).run Try.prog w = .ok (.tuple #[.int .i64 c, .bool (Maps.has D (.string (keyBytes [.int .i64 (i : Int), .int .u64 (S : Int)])))]) w := by
  obtain ⟨wi, wS⟩ := cut_wf hi hS
  obtain ⟨v, ps, hrun, hv⟩ := h.look_ok key_cut Try.underlying46 (zero_intC w) (plainElem_int Try.underlying3 (by decide)) (keyOf_cut wi wS)
  obtain ⟨c, rfl, _, _⟩ := plainElem_int_inv Try.underlying3 hv
  exact ⟨c, hrun⟩
theorem MemoIs.alloc {w : World} {b : Nat} {acc : List (Nat × Nat)} (h : MemoIs w b acc) (o : Obj) : MemoIs (w.alloc o) b acc := by
  obtain ⟨n, D, h1, h2, h3⟩ := h
  exact ⟨n, D, h1, h2.alloc o, h3⟩
theorem Keep2.turned {b : Nat} {w w' : World} (h : w.grownBy w' (some b)) : Keep2 b b w w' := ⟨h.os, h.tape, h.output, h.size, fun i hi h1 _ => h.block i hi (fun e => h1 (by injection e))⟩
theorem MemoIs.kept {w w' : World} {b : Nat} {acc : List (Nat × Nat)} (h : MemoIs w b acc) (hg : w.grownBy w' none) : MemoIs w' b acc := by
  obtain ⟨n, D, h1, h2, h3⟩ := h
  exact ⟨n, D, h1, h2.kept hg (by simp), h3⟩
theorem par_len {B : Nat → Nat} {N : Nat} : ∀ {m S : Nat} {l : List Nat}, par B N m S = some l → l.length ≤ m
  | 0, S, l, h => by
    rw [par] at h
    by_cases h0 : S = 0
    · rw [if_pos h0] at h; injection h with h; subst h; simp
    · rw [if_neg h0] at h; cases h
  | m + 1, S, l, h => by
    rw [par] at h
    by_cases h0 : S = 0
    · rw [if_pos h0] at h; injection h with h; subst h; simp
    · rw [if_neg h0] at h
      split at h
      · cases e : par B N m (dn S (B (N - (m + 1)))) with
        | none =>
          rw [e] at h
          have := par_len (h : par B N m S = some l)
          omega
        | some k =>
          rw [e] at h
          injection h with h
          subst h
          have := par_len e
          simp; omega
      · have := par_len h
        omega
theorem MemoIs.drew {w : World} {b : Nat} {acc : List (Nat × Nat)} (h : MemoIs w b acc) : MemoIs w.drew b acc := h
/-- What stands behind part: the answer, and what is kept. -/
def PartPost (bm : Nat) (B : Nat → Nat) (n N m : Nat) (S : Nat) (acc : List (Nat × Nat)) (w : World) (e : Ending) (w' : World) : Prop :=
  ∃ acc', Keep2 bm bm w w' ∧ MemoIs w' bm acc' ∧ GoodAcc B n N acc' ∧ (∀ p ∈ acc', p ∈ acc ∨ N - m ≤ p.1) ∧
    match par B N m S with
    | some l => ∃ v, e = .returned (.tuple #[v, .bool true]) ∧ IntsAt w' v (natL l) ∧ (0 < (natL l).length ∨ v = .slice none 0 0)
    | none => e = .returned (.tuple #[.slice none 0 0, .bool false])
/-- The parter's cells, and the sets'. -/
structure PartAt (B : Nat → Nat) (N : Nat) (ao : Option Addr) (bp bs bm sc : Nat) (w : World) : Prop where
  box : Arr w bp 2 (fun j => if j = 0 then .slice ao N sc else .map (some bm))
  sets : ∀ i, i < N → w.cell? ⟨bs, i, none⟩ = some (.int .u64 (B i : Nat))
  lt : bs < w.heap.size
theorem PartAt.keep {B : Nat → Nat} {N : Nat} {ao : Option Addr} {bp bs bm sc : Nat} {w w' : World} (h : PartAt B N ao bp bs bm sc w) (k : Keep2 bm bm w w') (h1 : bp ≠ bm) (h2 : bs ≠ bm) : PartAt B N ao bp bs bm sc w' :=
  ⟨k.arr h.box h1 h1, fun i hi => by rw [World.cell?_of_block (k.blk bs h.lt h2 h2)]; exact h.sets i hi, Nat.lt_of_lt_of_le h.lt k.size⟩
def PartOK (B : Nat → Nat) (n N : Nat) (ao : Option Addr) (bp bs bm sc m : Nat) : Prop := ∀ (S : Nat) (acc : List (Nat × Nat)) (w : World), m ≤ N → S < 2 ^ n → PartAt B N ao bp bs bm sc w → MemoIs w bm acc → GoodAcc B n N acc → bm < w.heap.size →
    Calls Try.prog 32 #[.pointer (some ⟨bp, 0, none⟩), .agg #[.int .i64 ((N - m : Nat) : Int), .int .u64 (S : Nat)]] w (PartPost bm B n N m S acc w)
/-- What stands behind i blocks, none of which serves. -/
structure PartRel (bm : Nat) (B : Nat → Nat) (n N m S : Nat) (acc : List (Nat × Nat)) (w wr : World) (i : Nat) : Prop where
  eq : par B N m S = par B N (N - i) S
  keep : Keep2 bm bm w wr
  box : Arr wr w.heap.size 2 (fun j => if j = 0 then .int .i64 ((N - m : Nat) : Int) else .int .u64 (S : Nat))
  memo : ∃ acc', MemoIs wr bm acc' ∧ GoodAcc B n N acc' ∧ ∀ p ∈ acc', p ∈ acc ∨ N - m < p.1

set_option maxRecDepth 100000 in
set_option maxHeartbeats 4000000 in
theorem part_step (B : Nat → Nat) (n N : Nat) (ao : Option Addr) (bp bs bm sc m : Nat) (hao : 0 < N → ao = some ⟨bs, 0, none⟩) (hn : n ≤ 40) (hN : N ≤ 200) (hB : ∀ i, i < N → B i < 2 ^ n) (h1 : bp ≠ bm) (h2 : bs ≠ bm) (ih : ∀ m', m' < m → PartOK B n N ao bp bs bm sc m') : PartOK B n N ao bp bs bm sc m := by
  intro S acc w hm hS hP hM hG hbm
  have hp40 : 2 ^ n ≤ 1152921504606846976 := pow60 (by omega)
  have IH := Lib.hid ih
  have HAo := Lib.hid hao
  clear hao
  have HP := Lib.hid hP
  have HM := Lib.hid hM
  have HG := Lib.hid hG
  have HB := Lib.hid hB
  have HS := Lib.hid hS
  have hS60 : S < 1152921504606846976 := by omega
  have HK1 : Hid (Keep2 bm bm w (w.alloc (.cells #[.int .i64 ((N - m : Nat) : Int), .int .u64 (S : Nat)] 54))) := Keep2.of (below_box w _)
  have HA1 := Lib.hid (pair_new w (.int .i64 ((N - m : Nat) : Int)) (.int .u64 (S : Nat)) 54 _ rfl)
  have hp0 : w.cell? ⟨bp, 0, none⟩ = some (.slice ao N sc) := hP.box.cell (show 0 < 2 by omega)
  have hp1 : w.cell? ⟨bp, 1, none⟩ = some (.map (some bm)) := hP.box.cell (show 1 < 2 by omega)
  have hbp := hP.box.lt
  obtain ⟨nn, D, hnl, hown, hD, hhas⟩ := hM
  have HO := Lib.hid (hown.alloc (.cells #[.int .i64 ((N - m : Nat) : Int), .int .u64 (S : Nat)] 54))
  have hfrom : N - m ≤ 1000 := by omega
  obtain ⟨wi, wS⟩ := cut_wf hfrom hS60
  have HKey := Lib.hid (keyOf_cut wi wS)
  have hh0 := hhas (N - m) S hfrom hS60
  clear ih hP hG hB hown hhas hD hnl wi wS hS
  by_cases h0 : S = 0
  · subst h0
    clear hh0
    go_enter Try.func32, Try.ntmps32
    go_wp2_with fail
    go_ret2
    exact ⟨acc, HK1.out, HM.out.alloc _, HG.out, fun p hp => .inl hp, by rw [par_done]; exact ⟨_, rfl, intsAt_nil _, .inr rfl⟩⟩
  · have hne : ((S : Int) == 0) = false := by simpa using h0
    have H0 := Lib.hid h0
    by_cases hmem : (N - m, S) ∈ acc
    · have hh : Maps.has D (.string (keyBytes [.int .i64 ((N - m : Nat) : Int), .int .u64 (S : Int)])) = true := by rw [hh0]; simpa using hmem
      have HNone : Hid (par B N m S = none) := by
        have := (HG.out.none _ _ hmem).2.2
        rwa [show N - (N - m) = m by omega] at this
      clear hh0 hmem h0
      go_enter Try.func32, Try.ntmps32
      go_wp2_with fail
      have e1 : (w.alloc (.cells #[.int .i64 ((N - m : Nat) : Int), .int .u64 (S : Nat)] 54)).cell? ⟨bp, 1, none⟩ = some (.map (some bm)) := by rw [World.cell?_alloc_old _ _ _ (by simp; omega)]; exact hp1
      have a0 : (w.alloc (.cells #[.int .i64 ((N - m : Nat) : Int), .int .u64 (S : Nat)] 54)).cell? ⟨w.heap.size, 0, none⟩ = some (.int .i64 ((N - m : Nat) : Int)) := HA1.out.cell (show 0 < 2 by omega)
      have a1 : (w.alloc (.cells #[.int .i64 ((N - m : Nat) : Int), .int .u64 (S : Nat)] 54)).cell? ⟨w.heap.size, 1, none⟩ = some (.int .u64 (S : Nat)) := HA1.out.cell (show 1 < 2 by omega)
      have HM1 := Lib.hid (HM.out.alloc (.cells #[.int .i64 ((N - m : Nat) : Int), .int .u64 (S : Nat)] 54))
      generalize w.alloc (.cells #[.int .i64 ((N - m : Nat) : Int), .int .u64 (S : Nat)] 54) = W1 at *
      obtain ⟨cc, hlk⟩ := cut_look (w := W1.drew) HO.out hfrom hS60
      rw [hh] at hlk
      clear hh
      go_region_held3 (fun w' => w'.cell? ⟨bp, 1, none⟩ = some (.map (some bm)) ∧ w'.cell? ⟨w.heap.size, 0, none⟩ = some (.int .i64 ((N - m : Nat) : Int)) ∧ w'.cell? ⟨w.heap.size, 1, none⟩ = some (.int .u64 (S : Nat)) ∧ (Instr.lookup 46 (.map (some bm)) (.agg #[.int .i64 ((N - m : Nat) : Int), .int .u64 (S : Int)]) true).run Try.prog w' = .ok (.tuple #[.int .i64 cc, .bool true]) w')
        (first | exact ⟨e1, a0, a1, hlk⟩ | fail) (fail)
      go_wp2_with fail
      go_ret2
      exact ⟨acc, HK1.out.trans (Keep2.of (below_D _ 1)), HM1.out, HG.out, fun p hp => .inl hp, by rw [HNone.out]; rfl⟩
    · have hh : Maps.has D (.string (keyBytes [.int .i64 ((N - m : Nat) : Int), .int .u64 (S : Int)])) = false := by rw [hh0]; simpa using hmem
      have HMem := Lib.hid hmem
      clear hh0 hmem h0
      go_enter Try.func32, Try.ntmps32
      go_wp2_with fail
      have e1 : (w.alloc (.cells #[.int .i64 ((N - m : Nat) : Int), .int .u64 (S : Nat)] 54)).cell? ⟨bp, 1, none⟩ = some (.map (some bm)) := by rw [World.cell?_alloc_old _ _ _ (by simp; omega)]; exact hp1
      have a0 : (w.alloc (.cells #[.int .i64 ((N - m : Nat) : Int), .int .u64 (S : Nat)] 54)).cell? ⟨w.heap.size, 0, none⟩ = some (.int .i64 ((N - m : Nat) : Int)) := HA1.out.cell (show 0 < 2 by omega)
      have a1 : (w.alloc (.cells #[.int .i64 ((N - m : Nat) : Int), .int .u64 (S : Nat)] 54)).cell? ⟨w.heap.size, 1, none⟩ = some (.int .u64 (S : Nat)) := HA1.out.cell (show 1 < 2 by omega)
      have HM1 := Lib.hid (HM.out.alloc (.cells #[.int .i64 ((N - m : Nat) : Int), .int .u64 (S : Nat)] 54))
      have hz1 : w.heap.size < (w.alloc (.cells #[.int .i64 ((N - m : Nat) : Int), .int .u64 (S : Nat)] 54)).heap.size := HA1.out.lt
      generalize w.alloc (.cells #[.int .i64 ((N - m : Nat) : Int), .int .u64 (S : Nat)] 54) = W1 at *
      obtain ⟨cc, hlk⟩ := cut_look (w := W1.drew) HO.out hfrom hS60
      rw [hh] at hlk
      clear hh
      go_region_held3 (fun w' => w'.cell? ⟨bp, 1, none⟩ = some (.map (some bm)) ∧ w'.cell? ⟨w.heap.size, 0, none⟩ = some (.int .i64 ((N - m : Nat) : Int)) ∧ w'.cell? ⟨w.heap.size, 1, none⟩ = some (.int .u64 (S : Nat)) ∧ (Instr.lookup 46 (.map (some bm)) (.agg #[.int .i64 ((N - m : Nat) : Int), .int .u64 (S : Int)]) true).run Try.prog w' = .ok (.tuple #[.int .i64 cc, .bool false]) w')
        (first | exact ⟨e1, a0, a1, hlk⟩ | fail) (fail)
      go_wp2_with fail
      clear a0 a1 e1 hlk
      go_loopw [8] (fun si wr => ∃ i : Nat, N - m ≤ i ∧ i ≤ N ∧ si = .int .i64 i ∧ PartRel bm B n N m S acc w wr i) (fun si _ => N - (intOf si).toNat)
      case atStart => exact ⟨N - m, Nat.le_refl _, by omega, rfl, ⟨by rw [show N - (N - m) = m by omega], HK1.out.trans (Keep2.of (below_D _ 1)), HA1.out, acc, HM1.out, HG.out, fun p hp => .inl hp⟩⟩
      case round =>
        obtain ⟨i, hi1, hi2, rfl, hR⟩ := hrel
        have HR := Lib.hid hR
        have HPr := Lib.hid (HP.out.keep hR.keep h1 h2)
        have p0 : wr.cell? ⟨bp, 0, none⟩ = some (.slice ao N sc) := HPr.out.box.cell (show 0 < 2 by omega)
        have p1 : wr.cell? ⟨bp, 1, none⟩ = some (.map (some bm)) := HPr.out.box.cell (show 1 < 2 by omega)
        have a0 : wr.cell? ⟨w.heap.size, 0, none⟩ = some (.int .i64 ((N - m : Nat) : Int)) := hR.box.cell (show 0 < 2 by omega)
        have a1 : wr.cell? ⟨w.heap.size, 1, none⟩ = some (.int .u64 (S : Nat)) := hR.box.cell (show 1 < 2 by omega)
        clear hR
        by_cases hil : i < N
        · have eao := HAo.out (Nat.zero_lt_of_lt hil)
          subst eao
          have cB := HPr.out.sets i hil
          have hBi := HB.out i hil
          have hAnd : bits .andNot .u64 ((B i : Nat) : Int) ((S : Nat) : Int) = ((dn (B i) S : Nat) : Int) := u64_andNot_nat _ _ (by omega) (by omega)
          have hAnd2 : bits .andNot .u64 ((S : Nat) : Int) ((B i : Nat) : Int) = ((dn S (B i) : Nat) : Int) := u64_andNot_nat _ _ (by omega) (by omega)
          have HPass : Hid ((B i = 0 ∨ dn (B i) S ≠ 0 ∨ par B N (N - (i + 1)) (dn S (B i)) = none) → par B N m S = par B N (N - (i + 1)) S) := fun h => HR.out.eq.trans (par_pass hil H0.out h)
          by_cases hb0 : B i = 0
          · have HE := Lib.hid (HPass.out (.inl hb0))
            have hb1 : (((B i : Nat) : Int) != 0) = false := by rw [hb0]; rfl
            clear hb0 hAnd hAnd2 HPass
            generalize B i = bi at *
            go_wp2_with fail
            go_roundw
            case rel => exact ⟨i + 1, by omega, by omega, by go_num, ⟨HE.out, HR.out.keep, HR.out.box, HR.out.memo⟩⟩
            case measure => simp [intOf]; omega
          · have hb1 : (((B i : Nat) : Int) != 0) = true := by simpa using hb0
            by_cases hs : dn (B i) S = 0
            · rw [hs] at hAnd
              obtain ⟨acc', hm', hg', hin'⟩ := HR.out.memo
              have HIn' := Lib.hid hin'
              have HTake := Lib.hid (fun l h => HR.out.eq.trans (par_take (l := l) hil H0.out hb0 hs h))
              have hcall := IH.out (N - (i + 1)) (by omega) (dn S (B i)) acc' wr (by omega) (dn_lt HS.out) HPr.out hm' hg' (Nat.lt_of_lt_of_le hbm HR.out.keep.size)
              have eN : N - (N - (i + 1)) = i + 1 := by omega
              rw [eN] at hcall
              rw [Int.natCast_add] at hcall
              have HCall := Lib.hid hcall
              have HP3 : Hid (par B N (N - (i + 1)) (dn S (B i)) = none → par B N m S = par B N (N - (i + 1)) S) := fun h => HPass.out (.inr (.inr h))
              clear hcall eN hb0 hs hm' hg' hin' HPass
              have hwm : w.heap.size ≠ bm := by omega
              go_wp2_with fail
              refine (HCall.out).mono ?_
              intro e w4 hp
              obtain ⟨acc4, k4, m4, g4, in4, hmt⟩ := hp
              have HK4 := Lib.hid (HR.out.keep.trans k4)
              have HBx4 := Lib.hid (k4.arr HR.out.box hwm hwm)
              have HM4 := Lib.hid m4
              have HG4 := Lib.hid g4
              have HIn4 : Hid (∀ p ∈ acc4, p ∈ acc ∨ N - m < p.1) := fun p hp => by
                rcases in4 p hp with h | h
                · exact HIn'.out p h
                · exact .inr (by omega)
              clear k4 m4 g4 in4 a0 a1 p0 p1 cB hAnd hAnd2
              cases ep : par B N (N - (i + 1)) (dn S (B i)) with
              | none =>
                rw [ep] at hmt
                dsimp only at hmt
                subst hmt
                have HE := Lib.hid (HP3.out ep)
                clear ep
                go_wp2_with fail
                go_roundw
                case rel => exact ⟨i + 1, by omega, by omega, by go_num, ⟨HE.out, HK4.out, HBx4.out, acc4, HM4.out, HG4.out, HIn4.out⟩⟩
                case measure => simp [intOf]; omega
              | some l =>
                rw [ep] at hmt
                dsimp only at hmt
                obtain ⟨v, rfl, hv, hor⟩ := hmt
                have HT := Lib.hid (HTake.out l ep)
                have HV := Lib.hid (hv.below (below_box w4 (.cells #[.int .i64 i] 3)))
                have HO1 := Lib.hid (intsAt_one w4 i 3)
                have HKb : Hid (Keep2 bm bm w (w4.alloc (.cells #[.int .i64 i] 3))) := HK4.out.trans (Keep2.of (below_box w4 _))
                have HMb := Lib.hid (HM4.out.alloc (.cells #[.int .i64 i] 3))
                have HIn5 : Hid (∀ p ∈ acc4, p ∈ acc ∨ N - m ≤ p.1) := fun p hp => (HIn4.out p hp).imp id (fun h => by omega)
                have hln := par_len ep
                clear ep
                have hlen : (natL l).length < 100000000 := by
                  rw [show (natL l).length = l.length by simp [natL]]
                  omega
                clear hln
                rcases hor with hl | hl
                · obtain ⟨va, vc, rfl, _⟩ := hv
                  go_wp2_with (first | (at_builtin; refine app_more rfl _ _ rfl rfl HO1.out HV.out rfl hl hlen ?_; intro v' w5 hown hgrow) | fail)
                  go_ret2
                  have hb5 : Below (w4.alloc (.cells #[.int .i64 i] 3)).heap.size (w4.alloc (.cells #[.int .i64 i] 3)) w5 := below_grown (v := .slice none 0 0) hgrow (by intro k hk; cases hk) (Nat.le_refl _)
                  exact ⟨acc4, HKb.out.trans (Keep2.of hb5), HMb.out.kept hgrow, HG4.out, HIn5.out, by rw [HT.out]; exact ⟨_, rfl, hown.intsAt (by rw [List.length_cons]; omega), .inl (by simp [natL])⟩⟩
                · subst hl
                  have hl0 : natL l = [] := by
                    obtain ⟨_, _, ev, _⟩ := hv
                    injection ev with _ ev2 _
                    exact List.eq_nil_of_length_eq_zero ev2.symm
                  have hnl : l = [] := by simpa [natL] using hl0
                  subst hnl
                  clear hl0
                  go_wp2_with fail
                  go_ret2
                  exact ⟨acc4, HKb.out, HMb.out, HG4.out, HIn5.out, by rw [HT.out]; exact ⟨_, rfl, HO1.out, .inl (by simp [natL])⟩⟩
            · have HE := Lib.hid (HPass.out (.inr (.inl hs)))
              have hs1 : (((dn (B i) S : Nat) : Int) == 0) = false := by simpa using hs
              clear hb0 hs HPass hAnd2
              generalize dn (B i) S = ds at *
              generalize B i = bi at *
              go_wp2_with fail
              go_roundw
              case rel => exact ⟨i + 1, by omega, by omega, by go_num, ⟨HE.out, HR.out.keep, HR.out.box, HR.out.memo⟩⟩
              case measure => simp [intOf]; omega
        · obtain rfl : i = N := by omega
          have HNone : Hid (par B i m S = none) := by
            rw [HR.out.eq, Nat.sub_self]
            exact par_end H0.out
          obtain ⟨acc', ⟨n', D', hn', hown', hD', hh'⟩, hg', hin'⟩ := HR.out.memo
          have hmx : n' < maxLen := by
            have := hg'.len hn hN
            unfold maxLen; omega
          have hsz : Maps.size D' ≤ n' := hown'.size_le
          have hlenE := hown'.len (w := wr.drew) Try.underlying46 3
          have HO' := Lib.hid hown'
          have HD' := Lib.hid hD'
          have HH' := Lib.hid hh'
          have HG' := Lib.hid hg'
          have HI' := Lib.hid hin'
          have HN' := Lib.hid hn'
          clear hown' hD' hh' hg' hin' hn'
          go_wp2_with fail
          go_still_tail 10, (by kernel_rfl)
          change wpList _ _ _ _ _ wr.drew
          go_wp2_with (first | (at_mapUpdate; refine wpList_mapUpdate_own _ rfl _ _ _ 46 rfl 54 3 key_cut Try.underlying46 (plainElem Try.prog 3) bm n' D' rfl (World.ownsMap.drew HO'.out) hmx _ _ _ rfl rfl HKey.out _ [] (plainElem_int Try.underlying3 (WalkArith.wf_i64 (by unfold maxLen at hmx; omega))) ?_; intro w5 hown1 hgrow1) | fail)
          go_ret2
          have hm5 := MemoIs.put HN'.out HD'.out hfrom hS60 HH'.out _ hown1
          have hk5 : Keep2 bm bm w w5 := HR.out.keep.trans ((Keep2.of (below_D _ 1)).trans (Keep2.turned hgrow1))
          have hnew : (i - m, S) ∉ acc' := fun h => by
            rcases HI'.out _ h with h | h
            · exact HMem.out h
            · exact absurd h (Nat.lt_irrefl _)
          refine ⟨acc' ++ [(i - m, S)], hk5, hm5, HG'.out.add (Nat.sub_le _ _) HS.out (by rw [show i - (i - m) = m by omega]; exact HNone.out) hnew, fun p hp => ?_, by rw [HNone.out]; rfl⟩
          rw [List.mem_append, List.mem_singleton] at hp
          rcases hp with hp | hp
          · rcases HI'.out p hp with h | h
            · exact .inl h
            · exact .inr (Nat.le_of_lt h)
          · subst hp; exact .inr (Nat.le_refl _)
theorem part_any (B : Nat → Nat) (n N : Nat) (ao : Option Addr) (bp bs bm sc : Nat) (hao : 0 < N → ao = some ⟨bs, 0, none⟩) (hn : n ≤ 40) (hN : N ≤ 200) (hB : ∀ i, i < N → B i < 2 ^ n) (h1 : bp ≠ bm) (h2 : bs ≠ bm) : ∀ m, PartOK B n N ao bp bs bm sc m := by
  intro m
  induction m using Nat.strongRecOn with
  | _ m ih => exact part_step B n N ao bp bs bm sc m hao hn hN hB h1 h2 fun m' hm => ih m' hm
end Go.Proofs.Ytkmcmahpfhlkhaa
