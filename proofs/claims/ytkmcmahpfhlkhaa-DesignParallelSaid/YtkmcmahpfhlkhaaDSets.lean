/-
  Contract: design.sets: the blocks as sets of bits. No condition.
-/
import Derived.Test.YtkmcmahpfhlkhaaRise
import Derived.Test.YtkmcmahpfhlkhaaBits
namespace Go.Proofs.Ytkmcmahpfhlkhaa
open Go.RowKit

/-- The bits of the first numbers of a block. -/
def bitsOf (b : List Int) : Nat → Nat
  | 0 => 0
  | j + 1 => sb (bitsOf b j) (ix b j).toNat
def setOf (b : List Int) : Nat := bitsOf b b.length
theorem bitsOf_lt {n : Nat} {b : List Int} (h : ∀ k, k < b.length → 0 ≤ ix b k ∧ ix b k < (n : Int)) : ∀ {j : Nat}, j ≤ b.length → bitsOf b j < 2 ^ n
  | 0, _ => by show 0 < _; exact Nat.two_pow_pos n
  | j + 1, hj => by
    have := h j (by omega)
    exact sb_lt (bitsOf_lt h (by omega)) (by omega)
theorem tb_bitsOf {n : Nat} {b : List Int} (h : ∀ k, k < b.length → 0 ≤ ix b k ∧ ix b k < (n : Int)) (x : Nat) : ∀ {j : Nat}, j ≤ b.length → (tb (bitsOf b j) x = true ↔ ∃ i, i < j ∧ ix b i = (x : Int))
  | 0, _ => by simp [bitsOf, tb]
  | j + 1, hj => by
    have hb := h j (by omega)
    rw [bitsOf, tb_sb, Bool.or_eq_true, tb_bitsOf h x (by omega), beq_iff_eq]
    constructor
    · rintro (⟨i, h1, h2⟩ | e)
      · exact ⟨i, by omega, h2⟩
      · exact ⟨j, by omega, by omega⟩
    · rintro ⟨i, h1, h2⟩
      by_cases e : i = j
      · subst e; exact .inr (by omega)
      · exact .inl ⟨i, by omega, h2⟩
theorem tb_setOf {n : Nat} {b : List Int} (h : IsBlock n b) (x : Nat) : tb (setOf b) x = mem b x := by
  have h1 := tb_bitsOf h.rng x (Nat.le_refl _)
  rw [Bool.eq_iff_iff]
  unfold setOf
  rw [h1, mem_iff]
  constructor
  · rintro ⟨i, hi, e⟩; rw [← e]; exact ix_mem hi
  · intro hx; obtain ⟨i, hi, e⟩ := ix_of_mem hx; exact ⟨i, hi, e⟩
theorem setOf_lt {n : Nat} {b : List Int} (h : IsBlock n b) : setOf b < 2 ^ n := bitsOf_lt h.rng (Nat.le_refl _)

theorem or_u64 {c j : Nat} (hc : c < 18446744073709551616) (hj : j < 60) : Value.int .u64 (bits .or .u64 (c : Int) (IntKind.u64.wrap ((2 : Int) ^ j))) = Value.int .u64 ((sb c j : Nat) : Int) := by
  have h2 : 2 ^ j < 2 ^ 60 := Nat.pow_lt_pow_right (by omega) hj
  have h1 : ((2 : Int) ^ j) = ((2 ^ j : Nat) : Int) := by rw [Int.natCast_pow]; rfl
  rw [h1]
  unfold sb
  generalize 2 ^ j = q at *
  rw [show IntKind.u64.wrap ((q : Nat) : Int) = ((q : Nat) : Int) by rw [IntKind.wrap_u64]; omega, u64_or_nat _ _ hc (by omega)]

/-- A row of the call's own that holds sets. -/
def cellsU (ss : List Nat) : List Value := ss.map (fun s => Value.int .u64 (s : Nat))
def OwnU (w : World) (base : Nat) (v : Value) (ss : List Nat) : Prop := w.ownsRow base 52 1 v ss.length (cellsU ss)
theorem OwnU.shape {w : World} {base : Nat} {v : Value} {ss : List Nat} (h : OwnU w base v ss) : ∃ a c, v = .slice a ss.length c := by
  rcases h.2 with ⟨rfl, e⟩ | ⟨g, cap, cur, rfl, _⟩
  · rw [e]; exact ⟨_, _, rfl⟩
  · exact ⟨_, _, rfl⟩
theorem ownU_below {w w' : World} {base : Nat} {v : Value} {ss : List Nat} (h : OwnU w base v ss) (hb : Below w.heap.size w w') : OwnU w' base v ss :=
  World.ownsRow.kept h (row := none) ⟨hb.os, hb.tape, hb.output, hb.size, fun j hj _ => hb.block j hj⟩ (by cases hv : v.ownBlock <;> simp)
theorem OwnU.cell {w : World} {base : Nat} {v : Value} {ss : List Nat} (h : OwnU w base v ss) {i : Nat} (hi : i < ss.length) : ∃ g c, v = .slice (some ⟨g, 0, none⟩) ss.length c ∧ g < w.heap.size ∧ w.cell? ⟨g, i, none⟩ = some (.int .u64 (ss.getD i 0 : Nat)) := by
  rcases h.2 with ⟨rfl, e⟩ | ⟨g, cap, cur, rfl, hg, hh, hc, hm, hs, ht⟩
  · omega
  · refine ⟨g, cap, rfl, (Array.getElem?_eq_some_iff.1 hh).1, ?_⟩
    rw [cell_of_row w g i cur _ (0, 0) hh]
    have e : (cur.toList.take (ss.length * 1))[i]? = (cellsU ss)[i]? := by rw [ht]
    rw [List.getElem?_take_of_lt (by omega)] at e
    rw [← Array.getElem?_toList, e]
    simp [cellsU, hi]
theorem info_set : (Try.prog.info? 52).map (fun i => (i.zero, i.size, i.bytes)) = some (some (.int .u64 0), 1, 8) := by kernel_rfl
set_option maxRecDepth 100000 in
theorem app_set {ops : Array Oper} {rest : List Oper} {o : Oper} {a : Act} {w : World} {Q : Exit → Act → World → Prop} (hgd : o.guard = none) (s x : Operand)
    (ho : o.op = .call { callee := .builtin .append, args := #[s, x], argTypes := #[44, 44] }) {base : Nat} {v : Value} {ss : List Nat} (hs : a.eval s = v) (hown : OwnU w base v ss)
    (g : Nat) (y : Nat) (hx : a.eval x = .slice (some ⟨g, 0, none⟩) 1 1) (hc : w.cell? ⟨g, 0, none⟩ = some (.int .u64 (y : Nat))) (hl : ss.length < 1000000000) (hb : base ≤ w.heap.size)
    (h : ∀ v' w', OwnU w' base v' (ss ++ [y]) → w.grownBy w' v.ownBlock → wpList Try.prog ops Q rest (a.put o.dst v') w') : wpList Try.prog ops Q (o :: rest) a w := by
  obtain ⟨i0, hi0, hz0, hz1, hz2⟩ := info_parts info_set
  refine wpList_append_own w hgd s x 44 ho base 52 i0 _ 1 8 Try.underlying44 hi0 hz0 hz1 hz2 rfl (by omega) v ss.length (cellsU ss) hs hown ⟨g, 0, none⟩ 1 1 [.int .u64 (y : Nat)] hx rfl (news_one hc) (by simp [Value.oneCell'])
    (by unfold maxLen; omega) (by omega) hb ?_
  intro v' w' h1 h2 _
  refine h v' w' ?_ h2
  unfold OwnU
  rw [show cellsU (ss ++ [y]) = cellsU ss ++ cellsU [y] by simp [cellsU], List.length_append]
  exact h1

def setsTo (xss : List (List Int)) : Nat → List Nat
  | 0 => []
  | k + 1 => setsTo xss k ++ [setOf (rx xss k)]
theorem setsTo_len (xss : List (List Int)) : ∀ k, (setsTo xss k).length = k
  | 0 => rfl
  | k + 1 => by rw [setsTo, List.length_append, setsTo_len xss k]; rfl
theorem setsTo_get (xss : List (List Int)) {i : Nat} : ∀ {k : Nat}, i < k → (setsTo xss k).getD i 0 = setOf (rx xss i)
  | 0, h => by omega
  | k + 1, h => by
    rw [setsTo]
    by_cases e : i < k
    · rw [List.getD_eq_getElem?_getD, List.getElem?_append_left (by rw [setsTo_len]; exact e), ← List.getD_eq_getElem?_getD]; exact setsTo_get xss e
    · rw [show i = k by omega, List.getD_eq_getElem?_getD, List.getElem?_append_right (by rw [setsTo_len]; exact Nat.le_refl _), setsTo_len, Nat.sub_self]; rfl

set_option maxRecDepth 100000 in
set_option maxHeartbeats 1000000 in
theorem sets_any (n : Nat) (v : Value) (xss : List (List Int)) (w : World) (h : RowsAt w v xss) (hD : IsDes n xss) :
    Calls Try.prog 31 #[.agg #[.int .i64 n, v]] w fun e w' => ∃ u, e = .returned u ∧ OwnU w' w.heap.size u (setsTo xss xss.length) ∧ Below w.heap.size w w' := by
  have HDes := Lib.hid hD
  have hn := hD.hi
  have hl := hD.few
  clear hD
  obtain ⟨a, c, V, rfl, h1, h2, _, h3⟩ := h
  have HX := Lib.hid h3; clear h3
  have HB0 := Lib.hid (below_box w (.cells #[.int .i64 (n : Int), .slice a xss.length c] 24))
  go_enter Try.func31, Try.ntmps31
  go_wp2_with fail
  go_loopw [12, 3] (fun s l wr => ∃ (k : Nat) (u : Value), k ≤ xss.length ∧ s = .int .i64 k ∧ l = u ∧ OwnU wr w.heap.size u (setsTo xss k) ∧ Below w.heap.size w wr) (fun s _ _ => xss.length - (intOf s).toNat)
  case atStart => exact ⟨0, _, by omega, rfl, rfl, World.ownsRow_nil _ _ _ 1, HB0.out⟩
  case round =>
    clear HB0
    obtain ⟨k, u, hk, rfl, hu, hO, hB⟩ := hrel
    subst hu
    have hkl := setsTo_len xss k
    have HO := Lib.hid hO; have HB := Lib.hid hB
    have hsz := hB.size
    clear hO hB
    by_cases hlt : k < xss.length
    · obtain ⟨hrow, b, o, rfl, hb, hc⟩ := HX.out k hlt
      have hcell := hc k hlt
      rw [← (bcell HB.out).1 _ _ hb] at hcell
      clear hc
      have hbl := HDes.out.all k hlt
      have HBl := Lib.hid hbl
      obtain ⟨ra, rc, hV, q1, q2, _, hq⟩ := hrow
      rw [hV] at hcell
      have HQ := Lib.hid hq
      clear hV hq hbl
      go_wp2_with fail
      go_loop [18, 6] (fun s l => ∃ x : Nat, x ≤ (rx xss k).length ∧ s = .int .i64 x ∧ l = .int .u64 (bitsOf (rx xss k) x : Nat)) (fun s _ => (rx xss k).length - (intOf s).toNat)
      case atStart => exact ⟨0, by omega, rfl, rfl⟩
      case round =>
        obtain ⟨x, hx, rfl, rfl⟩ := hrel
        by_cases hxn : x < (rx xss k).length
        · obtain ⟨b2, o2, rfl, hb2, hc2⟩ := HQ.out x hxn
          have c1 := hc2 x hxn
          rw [← (bcell HB.out).1 _ _ hb2] at c1
          have hy := HBl.out.rng x hxn
          obtain ⟨y, hy2⟩ : ∃ y : Nat, ix (rx xss k) x = y := Int.eq_ofNat_of_zero_le hy.1
          have hS : Hid (bitsOf (rx xss k) (x + 1) = sb (bitsOf (rx xss k) x) y) := by show _ = _; rw [bitsOf, hy2]; rfl
          have hlt2 := bitsOf_lt HBl.out.rng (show x ≤ (rx xss k).length by omega)
          have hp : 2 ^ n ≤ 2 ^ 40 := Nat.pow_le_pow_right (by omega) (by omega)
          rw [hy2] at c1 hy
          have hor := or_u64 (c := bitsOf (rx xss k) x) (j := y) (by omega) (by omega)
          have hy40 : y < 40 := by omega
          clear hc2 hy2 hy hp hlt2
          generalize bitsOf (rx xss k) x = B at *
          go_wp2_with fail
          go_round
          case rel => exact ⟨x + 1, by omega, by go_num, by rw [hS.out]⟩
          case measure => simp [intOf]; omega
        · obtain ⟨S, hS⟩ : ∃ S, S = setOf (rx xss k) := ⟨_, rfl⟩
          have hS2 : bitsOf (rx xss k) x = S := by rw [hS, setOf, show x = (rx xss k).length by omega]
          rw [hS2]
          have HS := Lib.hid hS
          clear hS hS2
          go_wp2_with (at_builtin; refine app_set rfl _ _ rfl rfl (ownU_below HO.out (below_box _ _)) _ _ rfl (by rw [World.cell?_alloc_new]; rfl) (by omega) (by rw [World.size_alloc]; omega) ?_; intro v' w1 hown1 hgrow)
          have HO1 := Lib.hid hown1
          have HB1 := Lib.hid ((HB.out.alloc hsz _).grown hgrow (by rw [World.size_alloc]; omega) (fun k hk => (World.ownsRow.lt HO.out k hk).1))
          clear hown1 hgrow
          go_roundw
          case rel => exact ⟨k + 1, _, by omega, by go_num, rfl, by rw [setsTo, ← HS.out]; exact HO1.out, HB1.out⟩
          case measure => simp [intOf]; omega
    · obtain rfl : k = xss.length := by omega
      go_wp2_with fail
      go_ret
      exact ⟨_, rfl, HO.out, HB.out⟩
end Go.Proofs.Ytkmcmahpfhlkhaa
