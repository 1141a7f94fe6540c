/-
  Contracts: the reference's Lists, Designs (are two designs the same?). No condition.
  Contracts: the library's slices.IndexFunc, ContainsFunc over ints, at whatever predicate is quiet. No condition.
  Contracts: design.Check, the reference's DesignFault: what is wrong with a design. No condition.
  Contract: the reference's Lies (is a number in a list?). No condition.
  A block of cells stored whole, loaded whole. No condition.
  What stands in memory while a design is built row by row; the plain rows. No condition.
  Rising lists are told by their members; the plain laws of what is derived from a design. No condition.
-/
import Derived.Test.YtdbfpdhcaiiiaaaDoorPDifferMakes2
import Derived.Test.YtdbfpdhcaiiiaaaDoorRows
import Derived.Test.YtdbfpdhcaiiiaaaDoorPDifferMakes1
import Derived.Laws.IdiomCopy
import Derived.Deep.WholeRow
import Derived.Laws.ResultCell
namespace Go.Proofs.YtdbfpdhcaiiiaaaDoor
open Go.RowKit

def eqL (xss yss : List (List Int)) : Bool := decide (xss = yss)
theorem eqL_refl (xss : List (List Int)) : eqL xss xss = true := by simp [eqL]
theorem eqL_len {xss yss : List (List Int)} (h : xss.length ≠ yss.length) : eqL xss yss = false := by
  simp only [eqL, decide_eq_false_iff_not]
  intro e; subst e; exact h rfl
theorem eqL_at {xss yss : List (List Int)} {k : Nat} (h : eqI (rx xss k) (rx yss k) = false) : eqL xss yss = false := by
  simp only [eqL, decide_eq_false_iff_not]
  intro e; subst e; rw [eqI_refl] at h; cases h
theorem ext_rx {xss yss : List (List Int)} (h : xss.length = yss.length) (ha : ∀ k, k < xss.length → rx xss k = rx yss k) : xss = yss := by
  apply List.ext_getElem h
  intro i h1 h2
  have := ha i h1
  rw [rx_lt h1, rx_lt h2] at this; exact this
theorem eqL_all {xss yss : List (List Int)} (h : xss.length = yss.length) (ha : ∀ k, k < xss.length → eqI (rx xss k) (rx yss k) = true) : eqL xss yss = true := by
  rw [ext_rx h fun k hk => eqI_iff.1 (ha k hk)]; exact eqL_refl _

set_option maxHeartbeats 400000 in
theorem lists_any (v u : Value) (xss yss : List (List Int)) (w : World) (h : RowsAt w v xss) (g : RowsAt w u yss) :
    Calls Tryd.prog 44 #[v, u] w fun e w' => e = .returned (.bool (eqL xss yss)) ∧ ∃ nd, w' = w.drewN nd := by
  obtain ⟨a, c, V, rfl, h1, h2, _, h3⟩ := h
  obtain ⟨b, d, U, rfl, g1, g2, _, g3⟩ := g
  have HX := Lib.hid h3; have HY := Lib.hid g3
  clear h3 g3
  by_cases hl : xss.length = yss.length
  · have hl' : (((xss.length : Nat) : Int) != ((yss.length : Nat) : Int)) = false := by rw [hl]; simp
    have HL := Lib.hid hl; clear hl
    go_enter Tryd.func44, Tryd.ntmps44
    go_wp2_with fail
    clear hl'
    go_loopw [5] (fun i wr => ∃ k nd : Nat, k ≤ xss.length ∧ i = .int .i64 k ∧ (∀ j, j < k → eqI (rx xss j) (rx yss j) = true) ∧ wr = w.drewN nd) (fun i _ => xss.length - (intOf i).toNat)
    case atStart => exact ⟨0, 0, by omega, rfl, fun j hj => by omega, rfl⟩
    case round =>
      obtain ⟨k, nd, hk, rfl, ha, hwr⟩ := hrel
      have HA := Lib.hid ha; clear ha
      have HW := Lib.hid hwr; clear hwr
      by_cases hlt : k < xss.length
      · have hlt2 : k < yss.length := by have := HL.out; omega
        obtain ⟨r1, b1, o1, rfl, hb1, hc1⟩ := HX.out k hlt
        obtain ⟨r2, b2, o2, rfl, hb2, hc2⟩ := HY.out k hlt2
        have c1 := hc1 k hlt
        have c2 := hc2 k hlt2
        have hcw : ∀ p, wr.cell? p = w.cell? p := fun p => by rw [HW.out]; rfl
        rw [← hcw] at c1 c2
        have hbw : Below w.heap.size w wr := by rw [HW.out]; exact below_D _ _
        have i1 : ((k : Nat) : Int) < ((xss.length : Nat) : Int) := by omega
        have i2 : ((k : Nat) : Int) < ((yss.length : Nat) : Int) := by omega
        have HC : Hid (∀ m, Calls Tryd.prog 23 #[V k, U k] (wr.drewN m) fun e w' => e = .returned (.bool (eqI (rx xss k) (rx yss k))) ∧ ∃ nd', w' = (wr.drewN m).drewN nd') :=
          fun m => ints_any _ _ _ _ _ (r1.below (below_drewN hbw _)) (r2.below (below_drewN hbw _))
        obtain ⟨p1, p2, hp, _⟩ := r1
        obtain ⟨q1, q2, hq, _⟩ := r2
        rw [hp] at c1 HC
        rw [hq] at c2 HC
        clear hc1 hc2 hp hq hcw hbw
        cases e : eqI (rx xss k) (rx yss k)
        all_goals
          rw [e] at HC
          have He := Lib.hid e; clear e
          go_wp2_with fail
          go_quiet (exact Calls.quiet_of (HC.out _))
          go_wp2_with fail
        · go_ret
          exact ⟨ret_bool (eqL_at He.out).symm, _, by rw [HW.out]; exact World.drewN_drewN _ _ _⟩
        · go_roundw
          case rel => exact ⟨k + 1, _, by omega, by go_num, fun j hj => by
            by_cases ej : j = k
            · subst ej; exact He.out
            · exact HA.out j (by omega), by rw [HW.out, World.drewN_drewN]⟩
          case measure => simp [intOf]; omega
      · obtain rfl : k = xss.length := by omega
        go_wp2_with fail
        go_ret
        exact ⟨ret_bool (eqL_all HL.out HA.out).symm, _, HW.out⟩
  · have hl' : (((xss.length : Nat) : Int) != ((yss.length : Nat) : Int)) = true := by simp; omega
    have HL := Lib.hid hl; clear hl
    go_enter Tryd.func44, Tryd.ntmps44
    go_wp2_with fail
    go_ret
    exact ⟨ret_bool (eqL_len HL.out).symm, 0, rfl⟩

set_option maxHeartbeats 400000 in
theorem designs_any (s t : Int) (v u : Value) (xss yss : List (List Int)) (w : World) (h : RowsAt w v xss) (g : RowsAt w u yss) :
    Calls Tryd.prog 21 #[.agg #[.int .i64 s, v], .agg #[.int .i64 t, u]] w fun e w' => e = .returned (.bool (s == t && eqL xss yss)) ∧ Below w.heap.size w w' := by
  have HBW := Lib.hid (belowTrans (below_box w (.cells #[.int .i64 s, v] 47)) (below_box _ (.cells #[.int .i64 t, u] 47)))
  have HC := Lib.hid (lists_any v u xss yss _ (h.below HBW.out) (g.below HBW.out))
  clear h g
  obtain ⟨r, hr⟩ : ∃ r, r = eqL xss yss := ⟨_, rfl⟩
  rw [← hr] at HC ⊢
  clear hr
  cases e1 : (s == t) <;> cases r
  all_goals
    go_enter Tryd.func21, Tryd.ntmps21
    go_wp2_with fail
    refine (HC.out).mono ?_
    rintro e w2 ⟨rfl, nd, rfl⟩
    have HB := Lib.hid (below_D ((w.alloc (.cells #[.int .i64 s, v] 47)).alloc (.cells #[.int .i64 t, u] 47)) nd)
    obtain ⟨y1, y2, y3, y4, y5, y6⟩ := box2 HB.out
    go_wp2
    go_ret
    exact ⟨rfl, belowTrans HBW.out HB.out⟩
end Go.Proofs.YtdbfpdhcaiiiaaaDoor

namespace Go.Proofs.YtdbfpdhcaiiiaaaDoor
open Go.RowKit

set_option maxHeartbeats 400000 in
theorem indexFunc_any (g : FuncId) (hg : ∀ (args : Array Value) (w : World), (callFunc g args).run Tryd.prog w = .ok (.enter g args) w) (q : Value) (p : Int → Bool) (v : Value) (xs : List Int) (w : World) (h : IntsAt w v xs)
    (hp : ∀ x, Calls Tryd.prog g #[.int .i64 x, q] w fun e w' => e = .returned (.bool (p x)) ∧ w = w') :
    Calls Tryd.prog 71 #[v, .func (.func g) #[] #[q]] w fun e w' => e = .returned (.int .i64 (findI p xs)) ∧ w = w' := by
  have Hp := Lib.hid hp; clear hp
  obtain ⟨a, c, rfl, h1, h2, _, h3⟩ := h
  go_enter Tryd.func71, Tryd.ntmps71
  go_wp2
  go_loop [8] (fun i => ∃ k : Nat, k ≤ xs.length ∧ i = .int .i64 k ∧ anyB p (xs.take k) = false) (fun i => xs.length - (intOf i).toNat)
  case atStart => exact ⟨0, by omega, rfl, by simp [anyB]⟩
  case round =>
    obtain ⟨k, hk, rfl, hn⟩ := hrel
    have Hn := Lib.hid hn; clear hn
    by_cases hlt : k < xs.length
    · obtain ⟨b, o, rfl, hb, hc⟩ := h3 k hlt
      have hcell := hc k hlt
      clear hc h3
      cases ep : p (ix xs k)
      all_goals
        have Hep := Lib.hid ep; clear ep
        go_wp2_with (refine (Hp.out _).mono ?_; rw [Hep.out]; rintro e w' ⟨rfl, rfl⟩)
      · go_round
        case rel => exact ⟨k + 1, by omega, by go_num, by rw [any_take hlt, Hn.out, Hep.out]; rfl⟩
        case measure => simp [intOf]; omega
      · go_ret
        exact ⟨ret_int (findI_hit hlt Hn.out Hep.out).symm, rfl⟩
    · obtain rfl : k = xs.length := by omega
      go_wp2
      go_ret
      exact ⟨ret_int (findI_none (by simpa using Hn.out)).symm, rfl⟩

theorem containsFunc_any (g : FuncId) (hg : ∀ (args : Array Value) (w : World), (callFunc g args).run Tryd.prog w = .ok (.enter g args) w) (q : Value) (p : Int → Bool) (v : Value) (xs : List Int) (w : World) (h : IntsAt w v xs)
    (hp : ∀ x, Calls Tryd.prog g #[.int .i64 x, q] w fun e w' => e = .returned (.bool (p x)) ∧ w = w') :
    Calls Tryd.prog 57 #[v, .func (.func g) #[] #[q]] w fun e w' => e = .returned (.bool (anyB p xs)) ∧ w = w' := by
  have Hc := Lib.hid (indexFunc_any g hg q p v xs w h hp)
  clear hp h hg
  have e := findI_pos p xs
  have He := Lib.hid e; clear e
  go_enter Tryd.func57, Tryd.ntmps57
  go_wp2_with (go_at_call 71; refine (Hc.out).mono ?_; rintro e w' ⟨rfl, rfl⟩)
  go_ret
  exact ⟨ret_bool He.out, rfl⟩

theorem enters_latinCheck (args : Array Value) (w : World) : (callFunc 58 args).run Tryd.prog w = .ok (.enter 58 args) w := by kernel_rfl
end Go.Proofs.YtdbfpdhcaiiiaaaDoor

namespace Go.Proofs.YtdbfpdhcaiiiaaaDoor
open Go.RowKit

/-- What is wrong with one block, with the first of some blocks. -/
def blockF (n : Int) (b : List Int) : Int := if anyB (outV n) b then 1 else if incB b then 0 else 2
def desTo (n : Int) (xss : List (List Int)) : Nat → Int
  | 0 => 0
  | k + 1 => if desTo n xss k = 0 then blockF n (rx xss k) else desTo n xss k
def desFault (n : Int) (xss : List (List Int)) : Int := if n < 1 ∨ 40 < n then 1 else if 200 < xss.length then 3 else desTo n xss xss.length
theorem desTo_next {n : Int} {xss : List (List Int)} {k : Nat} (h : desTo n xss k = 0) : desTo n xss (k + 1) = blockF n (rx xss k) := by rw [desTo, if_pos h]
theorem desTo_hit {n : Int} {xss : List (List Int)} {k : Nat} {e : Int} (h : desTo n xss k = 0) (he : blockF n (rx xss k) = e) (h0 : e ≠ 0) : ∀ {m : Nat}, k < m → desTo n xss m = e
  | 0, hk => by omega
  | m + 1, hk => by
    by_cases e2 : k = m
    · subst e2; rw [desTo_next h, he]
    · rw [desTo, desTo_hit h he h0 (m := m) (by omega), if_neg h0]
structure IsBlock (n : Int) (b : List Int) : Prop where
  rng : ∀ k, k < b.length → 0 ≤ ix b k ∧ ix b k < n
  inc : incB b = true
structure IsDes (n : Int) (xss : List (List Int)) : Prop where
  lo : 1 ≤ n
  hi : n ≤ 40
  few : xss.length ≤ 200
  all : ∀ i, i < xss.length → IsBlock n (rx xss i)
theorem block_of {n : Int} {b : List Int} (h : blockF n b = 0) : IsBlock n b := by
  unfold blockF at h
  cases h2 : anyB (outV n) b
  · rw [h2] at h
    cases h3 : incB b
    · rw [h3] at h; cases h
    · exact ⟨anyV h2, h3⟩
  · rw [h2] at h; cases h
theorem IsBlock.fault {n : Int} {b : List Int} (h : IsBlock n b) : blockF n b = 0 := by
  unfold blockF
  rw [anyV_of h.rng, h.inc]; rfl
theorem desTo_all {n : Int} {xss : List (List Int)} : ∀ {m : Nat}, desTo n xss m = 0 → ∀ i, i < m → IsBlock n (rx xss i)
  | 0, _, i, hi => by omega
  | m + 1, h, i, hi => by
    by_cases h0 : desTo n xss m = 0
    · rw [desTo_next h0] at h
      by_cases e : i = m
      · subst e; exact block_of h
      · exact desTo_all h0 i (by omega)
    · rw [desTo, if_neg h0] at h; exact absurd h h0
theorem desTo_of {n : Int} {xss : List (List Int)} : ∀ {m : Nat}, (∀ i, i < m → IsBlock n (rx xss i)) → desTo n xss m = 0
  | 0, _ => rfl
  | m + 1, h => by rw [desTo_next (desTo_of fun i hi => h i (by omega))]; exact (h m (by omega)).fault
theorem des_of {n : Int} {xss : List (List Int)} (h : desFault n xss = 0) : IsDes n xss := by
  unfold desFault at h
  by_cases h1 : n < 1 ∨ 40 < n
  · rw [if_pos h1] at h; cases h
  · rw [if_neg h1] at h
    by_cases h2 : 200 < xss.length
    · rw [if_pos h2] at h; cases h
    · rw [if_neg h2] at h
      exact ⟨by omega, by omega, by omega, desTo_all h⟩
theorem IsDes.fault {n : Int} {xss : List (List Int)} (h : IsDes n xss) : desFault n xss = 0 := by
  have := h.lo; have := h.hi; have := h.few
  unfold desFault
  rw [if_neg (by omega), if_neg (by omega), desTo_of h.all]
theorem notInc_full {xs : List Int} {k : Nat} (h : notInc xs k = false) (hk : ¬ k + 1 < xs.length) (hk2 : k + 1 ≤ xs.length ∨ k = 0) : incB xs = true := by
  unfold incB
  have : k = xs.length - 1 := by omega
  rw [← this, h]; rfl

end Go.Proofs.YtdbfpdhcaiiiaaaDoor

namespace Go.Proofs.YtdbfpdhcaiiiaaaDoor
open Go.RowKit
end Go.Proofs.YtdbfpdhcaiiiaaaDoor

namespace Go.Proofs.YtdbfpdhcaiiiaaaDoor
open Go.RowKit

theorem setCells_far (b : Nat) : ∀ (vs : List Value) (o : Nat) (w : World) (k : Nat), k ≠ b → (w.setCells b o vs).heap[k]? = w.heap[k]?
  | [], _, _, _, _ => rfl
  | v :: r, o, w, k, h => by rw [World.setCells, setCells_far b r _ _ k h]; exact Below.heap_setCell w ⟨b, o, none⟩ v k h
theorem setCells_size (b : Nat) : ∀ (vs : List Value) (o : Nat) (w : World), (w.setCells b o vs).heap.size = w.heap.size
  | [], _, _ => rfl
  | v :: r, o, w => by rw [World.setCells, setCells_size b r, World.size_setCell]
theorem setCells_below (b : Nat) : ∀ (vs : List Value) (o : Nat) (w : World) (B : Nat), B ≤ b → Below B w (w.setCells b o vs)
  | [], _, _, _, _ => Below.refl _ _
  | v :: r, o, w, B, h => ((Below.refl B w).setCell (p := ⟨b, o, none⟩) h v).trans (setCells_below b r _ _ B h)

theorem stores {P : Program} {w : World} {b n : Nat} {f : Nat → Value} (hA : Arr w b n f) (vs : List Value) (hl : vs.length = n) (h1 : ∀ v ∈ vs, v.oneCell' = true) :
    ∃ W, (storeCells ⟨b, 0, none⟩ vs 0).run P w = .ok () W ∧ Arr W b n (fun j => vs.getD j undef) ∧
      (∀ k o, k ≠ b → W.cell? ⟨k, o, none⟩ = w.cell? ⟨k, o, none⟩) ∧ (∀ k o, k ≠ b → W.frozen? ⟨k, o, none⟩ = w.frozen? ⟨k, o, none⟩) ∧ W.heap.size = w.heap.size ∧ ∀ B, B ≤ b → Below B w W := by
  subst hl
  refine ⟨w.setCells b 0 vs, ?_, ⟨by rw [setCells_size]; exact hA.lt, fun j hj => ⟨?_, ?_⟩⟩, fun k o hk => ?_, fun k o hk => ?_, setCells_size _ _ _ _, fun B hB => setCells_below b vs 0 w B hB⟩
  · exact run_storeCells_cells b 0 vs 0 w (fun j hj => by simp [hA.cell hj]) (fun j hj => by simpa using hA.free hj) h1
  · have := World.cell?_setCells_in b vs 0 w (fun i hi => by simp [hA.cell hi]) j hj
    rw [Nat.zero_add] at this
    rw [this]; show _ = some (vs.getD j undef)
    rw [List.getD_eq_getElem?_getD, List.getElem?_eq_getElem hj]; rfl
  · rw [World.frozen?_setCells]; exact hA.free hj
  · exact World.cell?_of_block (w := w) (a := ⟨k, o, none⟩) (setCells_far b vs 0 w k hk)
  · exact World.frozen?_of_block (w := w) (a := ⟨k, o, none⟩) (setCells_far b vs 0 w k hk)

theorem loads {P : Program} {w : World} {b n : Nat} {f : Nat → Value} (hA : Arr w b n f) :
    (loadCellsFrom ⟨b, 0, none⟩ 0 n #[]).run P w = .ok ((List.range n).map f).toArray w := by
  have := run_loadCells (P := P) w ⟨b, 0, none⟩ n f (fun j hj => by
    have hadd : (⟨b, 0, none⟩ : Addr).add j = ⟨b, j, none⟩ := by unfold Addr.add; split <;> simp_all
    rw [hadd]; exact hA.cell hj)
  simpa [loadCells] using this

/-- As many numbers as a function of places. -/
def rowOf (n : Nat) (f : Nat → Int) : List Value := (List.range n).map fun j => Value.int .i64 (f j)
theorem rowOf_len (n : Nat) (f : Nat → Int) : (rowOf n f).length = n := by simp [rowOf]
theorem rowOf_one (n : Nat) (f : Nat → Int) : ∀ v ∈ rowOf n f, v.oneCell' = true := by
  intro v hv
  obtain ⟨j, _, rfl⟩ := List.mem_map.1 hv
  rfl
theorem rowOf_get (n : Nat) (f : Nat → Int) {j : Nat} (h : j < n) : (rowOf n f).getD j undef = .int .i64 (f j) := by
  simp [rowOf, List.getD_eq_getElem?_getD, h]
theorem rowOf_congr {n : Nat} {f g : Nat → Int} (h : ∀ j, j < n → f j = g j) : rowOf n f = rowOf n g := by
  unfold rowOf
  refine List.map_congr_left fun j hj => ?_
  rw [h j (List.mem_range.1 hj)]
theorem Nums.stores {P : Program} {w : World} {b n : Nat} {f : Nat → Value} (hA : Arr w b n f) (g : Nat → Int) :
    ∃ W, (storeCells ⟨b, 0, none⟩ (rowOf n g) 0).run P w = .ok () W ∧ Nums W b n g ∧
      (∀ k o, k ≠ b → W.cell? ⟨k, o, none⟩ = w.cell? ⟨k, o, none⟩) ∧ (∀ k o, k ≠ b → W.frozen? ⟨k, o, none⟩ = w.frozen? ⟨k, o, none⟩) ∧ W.heap.size = w.heap.size ∧ ∀ B, B ≤ b → Below B w W := by
  obtain ⟨W, h1, h2, h3⟩ := Go.Proofs.YtdbfpdhcaiiiaaaDoor.stores (P := P) hA (rowOf n g) (rowOf_len n g) (rowOf_one n g)
  exact ⟨W, h1, h2.congr fun j hj => rowOf_get n g hj, h3⟩
theorem Nums.loads {P : Program} {w : World} {b n : Nat} {f : Nat → Int} (hA : Nums w b n f) :
    (loadCellsFrom ⟨b, 0, none⟩ 0 n #[]).run P w = .ok (rowOf n f).toArray w := Go.Proofs.YtdbfpdhcaiiiaaaDoor.loads hA
theorem Arr.kept {w W : World} {b n : Nat} {f : Nat → Value} (h : Arr w b n f) (hc : ∀ o, W.cell? ⟨b, o, none⟩ = w.cell? ⟨b, o, none⟩) (hf : ∀ o, W.frozen? ⟨b, o, none⟩ = w.frozen? ⟨b, o, none⟩) (hz : w.heap.size ≤ W.heap.size) : Arr W b n f :=
  ⟨Nat.lt_of_lt_of_le h.1 hz, fun j hj => ⟨by rw [hc]; exact h.cell hj, by rw [hf]; exact h.free hj⟩⟩

theorem loadVar_arr {P : Program} {w : World} {b n : Nat} {f : Nat → Value} (hA : Arr w b n f) {ty : TypeId} {d : TypeDesc} (hu : P.underlying ty = some d)
    (hd : (match d with | .struct _ | .array _ _ => true | _ => false) = true) (hi : (P.info? ty).map (·.size) = some n) :
    (loadVar ty ⟨b, 0, none⟩).run P w = .ok (.agg ((List.range n).map f).toArray) w := by
  have hl := loads (P := P) hA
  cases hq : P.info? ty with
  | none => simp [hq] at hi
  | some i =>
    have hs : i.size = n := by simpa [hq] using hi
    have hagg : (isAgg ty).run P w = .ok true w := by
      unfold isAgg
      rw [Sem.run_bind, run_underlying hu w]
      cases d <;> simp_all
    simp [loadVar, Sem.run_bind, hagg, sizeOf, typeInfo, hq, hs, loadCells, hl]
theorem results_tab {P : Program} {fn : Func} {p u : Tmp} {ty : TypeId} (h : fn.results = #[.cell p ty, .tmp u]) {tmps : Array Value} {w : World} {b n : Nat} {f : Nat → Int} (hA : Nums w b n f) {d : TypeDesc} (hu : P.underlying ty = some d)
    (hd : (match d with | .struct _ | .array _ _ => true | _ => false) = true) (hi : (P.info? ty).map (·.size) = some n) (hp : tmps.getD p undef = .pointer (some ⟨b, 0, none⟩)) :
    (results fn tmps).run P w = .ok (.tuple #[.agg (rowOf n f).toArray, tmps.getD u undef]) w := by
  rw [results_cell_tmp h, hp]
  have : (asAddr (.pointer (some ⟨b, 0, none⟩))).run P w = .ok ⟨b, 0, none⟩ w := rfl
  rw [this]
  simp only [Result.andThen_ok]
  rw [loadVar_arr hA hu hd hi]
  rfl

theorem Arr.belowB {w w' : World} {B b n : Nat} {f : Nat → Value} (h : Arr w b n f) (hb : Below B w w') (hB : b < B) : Arr w' b n f :=
  ⟨Nat.lt_of_lt_of_le h.1 hb.size, fun i hi => ⟨by rw [hb.cell (p := ⟨b, i, none⟩) hB]; exact h.cell hi, by rw [hb.frozen (p := ⟨b, i, none⟩) hB]; exact h.free hi⟩⟩

theorem wp_load_tab {P : Program} {o : Oper} {a : Act} {w : World} {K : Act → World → Prop} {Q : Exit → Act → World → Prop} (ty : TypeId) (x : Operand) (ho : o.op = .load ty x)
    (b : Nat) (hx : a.eval x = .pointer (some ⟨b, 0, none⟩)) {n : Nat} {f : Nat → Int} (hA : Nums w b n f) {d : TypeDesc}
    (hu : P.underlying ty = some d) (hd : (match d with | .struct _ | .array _ _ => true | _ => false) = true) (hi : (P.info? ty).map (·.size) = some n)
    (h : K (a.put o.dst (.agg (rowOf n f).toArray)) w) : o.wp P a w K Q := by
  unfold Oper.wp execOp
  simp only [ho, hx, Instr.loadAt, Instr.sureAddr, Sem.run_bind, Sem.run_pure, Result.andThen_ok, loadVar_arr hA hu hd hi]
  exact h
theorem wpList_load_tab {P : Program} {ops : Array Oper} {rest : List Oper} {o : Oper} {a : Act} {w : World} {Q : Exit → Act → World → Prop} (hgd : o.guard = none) (ty : TypeId) (x : Operand) (ho : o.op = .load ty x)
    (b : Nat) (hx : a.eval x = .pointer (some ⟨b, 0, none⟩)) {n : Nat} {f : Nat → Int} (hA : Nums w b n f) {d : TypeDesc}
    (hu : P.underlying ty = some d) (hd : (match d with | .struct _ | .array _ _ => true | _ => false) = true) (hi : (P.info? ty).map (·.size) = some n)
    (h : wpList P ops Q rest (a.put o.dst (.agg (rowOf n f).toArray)) w) : wpList P ops Q (o :: rest) a w :=
  wpList_plain hgd fun _ hK => wp_load_tab ty x ho b hx hA hu hd hi (hK _ _ h)

theorem results_arr1 {P : Program} {fn : Func} {p : Tmp} {ty : TypeId} (h : fn.results = #[.cell p ty]) {tmps : Array Value} {w : World} {b n : Nat} {f : Nat → Value} (hA : Arr w b n f) {d : TypeDesc} (hu : P.underlying ty = some d)
    (hd : (match d with | .struct _ | .array _ _ => true | _ => false) = true) (hi : (P.info? ty).map (·.size) = some n) (hp : tmps.getD p undef = .pointer (some ⟨b, 0, none⟩)) :
    (results fn tmps).run P w = .ok (.agg ((List.range n).map f).toArray) w := by
  have hp' : tmps[p]?.getD undef = .pointer (some ⟨b, 0, none⟩) := by simpa using hp
  simp [results, h, hp', asAddr, loadVar_arr hA hu hd hi]

theorem results_arrT {P : Program} {fn : Func} {p u : Tmp} {ty : TypeId} (h : fn.results = #[.cell p ty, .tmp u]) {tmps : Array Value} {w : World} {b n : Nat} {f : Nat → Value} (hA : Arr w b n f) {d : TypeDesc} (hu : P.underlying ty = some d)
    (hd : (match d with | .struct _ | .array _ _ => true | _ => false) = true) (hi : (P.info? ty).map (·.size) = some n) (hp : tmps.getD p undef = .pointer (some ⟨b, 0, none⟩)) :
    (results fn tmps).run P w = .ok (.tuple #[.agg ((List.range n).map f).toArray, tmps.getD u undef]) w := by
  rw [results_cell_tmp h, hp]
  have : (asAddr (.pointer (some ⟨b, 0, none⟩))).run P w = .ok ⟨b, 0, none⟩ w := rfl
  rw [this]
  simp only [Result.andThen_ok]
  rw [loadVar_arr hA hu hd hi]
  rfl

end Go.Proofs.YtdbfpdhcaiiiaaaDoor

namespace Go.Proofs.YtdbfpdhcaiiiaaaDoor
open Go.RowKit

/-- The numbers below m that have a property. -/
def pickL (p : Nat → Bool) : Nat → List Int
  | 0 => []
  | m + 1 => if p m then pickL p m ++ [(m : Int)] else pickL p m
def rowsTo (F : Nat → List Int) : Nat → List (List Int)
  | 0 => []
  | k + 1 => rowsTo F k ++ [F k]
theorem pickL_yes {p : Nat → Bool} {m : Nat} (h : p m = true) : pickL p (m + 1) = pickL p m ++ [(m : Int)] := by rw [pickL, if_pos h]
theorem pickL_no {p : Nat → Bool} {m : Nat} (h : p m = false) : pickL p (m + 1) = pickL p m := by rw [pickL, h]; rfl
theorem pickL_len (p : Nat → Bool) : ∀ m, (pickL p m).length ≤ m
  | 0 => Nat.le_refl _
  | m + 1 => by
    have := pickL_len p m
    cases e : p m
    · rw [pickL_no e]; omega
    · rw [pickL_yes e, List.length_append, List.length_singleton]; omega
theorem mem_pickL {p : Nat → Bool} {x : Int} : ∀ {m : Nat}, x ∈ pickL p m ↔ ∃ j, j < m ∧ p j = true ∧ x = (j : Int)
  | 0 => by simp [pickL]
  | m + 1 => by
    cases e : p m
    · rw [pickL_no e, mem_pickL]
      constructor
      · rintro ⟨j, h1, h2, h3⟩; exact ⟨j, by omega, h2, h3⟩
      · rintro ⟨j, h1, h2, h3⟩
        by_cases ej : j = m
        · subst ej; rw [e] at h2; cases h2
        · exact ⟨j, by omega, h2, h3⟩
    · rw [pickL_yes e, List.mem_append, mem_pickL, List.mem_singleton]
      constructor
      · rintro (⟨j, h1, h2, h3⟩ | h)
        · exact ⟨j, by omega, h2, h3⟩
        · exact ⟨m, by omega, e, h⟩
      · rintro ⟨j, h1, h2, h3⟩
        by_cases ej : j = m
        · subst ej; exact .inr h3
        · exact .inl ⟨j, by omega, h2, h3⟩
theorem pickL_congr {p q : Nat → Bool} : ∀ {m : Nat}, (∀ j, j < m → p j = q j) → pickL p m = pickL q m
  | 0, _ => rfl
  | m + 1, h => by
    rw [pickL, pickL, pickL_congr (m := m) fun j hj => h j (by omega), h m (by omega)]
theorem rowsTo_len (F : Nat → List Int) : ∀ m, (rowsTo F m).length = m
  | 0 => rfl
  | m + 1 => by rw [rowsTo, List.length_append, rowsTo_len F m]; rfl
theorem rowsTo_rx (F : Nat → List Int) {i : Nat} : ∀ {m : Nat}, i < m → rx (rowsTo F m) i = F i
  | 0, h => by omega
  | m + 1, h => by
    rw [rowsTo, rx_snoc, rowsTo_len]
    by_cases e : i < m
    · rw [if_pos e]; exact rowsTo_rx F e
    · rw [if_neg e, if_pos (by omega), show i = m by omega]
theorem rowsTo_congr {F G : Nat → List Int} : ∀ {m : Nat}, (∀ i, i < m → F i = G i) → rowsTo F m = rowsTo G m
  | 0, _ => rfl
  | m + 1, h => by rw [rowsTo, rowsTo, rowsTo_congr (m := m) fun i hi => h i (by omega), h m (by omega)]

theorem pair_new (w : World) (p q : Value) (t : TypeId) (b : Nat) (hb : b = w.heap.size) : Arr (w.alloc (.cells #[p, q] t)) b 2 (fun j => if j = 0 then p else q) := by
  subst hb
  refine ⟨by simp, fun j hj => ⟨?_, World.frozen?_alloc_new _ _ _ _⟩⟩
  rw [World.cell?_alloc_new]
  rcases j with _ | _ | j
  · rfl
  · rfl
  · omega
theorem results_pairT {P : Program} {fn : Func} {p u : Tmp} {ty : TypeId} (h : fn.results = #[.cell p ty, .tmp u]) {tmps : Array Value} {w : World} {b n : Nat} {f : Nat → Value} (hA : Arr w b n f) {d : TypeDesc} (hu : P.underlying ty = some d)
    (hd : (match d with | .struct _ | .array _ _ => true | _ => false) = true) (hi : (P.info? ty).map (·.size) = some n) (hp : tmps.getD p undef = .pointer (some ⟨b, 0, none⟩)) :
    (results fn tmps).run P w = .ok (.tuple #[.agg ((List.range n).map f).toArray, tmps.getD u undef]) w := by
  rw [results_cell_tmp h, hp]
  have : (asAddr (.pointer (some ⟨b, 0, none⟩))).run P w = .ok ⟨b, 0, none⟩ w := rfl
  rw [this]
  simp only [Result.andThen_ok]
  rw [loadVar_arr hA hu hd hi]
  rfl

/-- The argument, boxed; the result, still empty; what is built (block bo). -/
structure DesRel (w wr : World) (bo : Nat) (n : Int) (dv : Value) (p : Int) (v : Value) (yss : List (List Int)) : Prop where
  box : Arr wr w.heap.size 2 (fun j => if j = 0 then .int .i64 n else dv)
  res : Arr wr (w.heap.size + 1) 2 (fun j => if j = 0 then .int .i64 0 else .slice none 0 0)
  out : Arr wr bo 2 (fun j => if j = 0 then .int .i64 p else v)
  own : OwnL wr (bo + 1) v yss
  lo : w.heap.size + 1 < bo
  bel : Below w.heap.size w wr
theorem DesRel.next {w wr w' : World} {bo : Nat} {n : Int} {dv : Value} {p : Int} {v : Value} {yss : List (List Int)} (h : DesRel w wr bo n dv p v yss) (hb : Below wr.heap.size wr w') : DesRel w w' bo n dv p v yss :=
  ⟨h.box.below hb, h.res.below hb, h.out.below hb, h.own.below hb, h.lo, belowTrans h.bel hb⟩
theorem DesRel.size {w wr : World} {bo : Nat} {n : Int} {dv : Value} {p : Int} {v : Value} {yss : List (List Int)} (h : DesRel w wr bo n dv p v yss) : bo + 1 ≤ wr.heap.size := h.out.lt
theorem DesRel.push {w w1 w2 : World} {bo : Nat} {n : Int} {dv : Value} {p : Int} {v v' : Value} {yss zss : List (List Int)} (h : DesRel w w1 bo n dv p v yss) (hO : OwnL w2 (bo + 1) v' zss) (hg : w1.grownBy w2 v.ownBlock) :
    DesRel w (w2.setCell ⟨bo, 1, none⟩ v') bo n dv p v' zss := by
  have hlo := h.lo
  have hbl : ∀ k, v.ownBlock = some k → bo + 1 ≤ k := fun k hk => (h.own.block k hk).1
  have hsz := h.size
  have kp : ∀ {b : Nat} {f : Nat → Value}, b < bo + 1 → Arr w1 b 2 f → Arr w2 b 2 f := fun {b f} hb hA =>
    hA.kept (fun o => hg.cell_far ⟨b, o, none⟩ (Nat.lt_of_lt_of_le hb hsz) (fun e => by have := hbl b e.symm; omega)) (fun o => hg.frozen_far ⟨b, o, none⟩ (Nat.lt_of_lt_of_le hb hsz) (fun e => by have := hbl b e.symm; omega)) hg.size
  refine ⟨(kp (by omega) h.box).setOther (by show bo ≠ _; omega) _, (kp (by omega) h.res).setOther (by show bo ≠ _; omega) _, ?_, hO.setFar (by show bo < _; omega) _, hlo, (h.bel.grown hg (by omega) (fun k hk => by have := hbl k hk; omega)).setCell (by show _ ≤ bo; omega) _⟩
  refine ((kp (by omega) h.out).set (show 1 < 2 by omega) v').congr fun j hj => ?_
  rcases j with _ | _ | j
  · rfl
  · rfl
  · omega
theorem DesRel.spot {w w1 w2 : World} {bo : Nat} {n : Int} {dv : Value} {p : Int} {v : Value} {yss : List (List Int)} (h : DesRel w w1 bo n dv p v yss) (hg : w1.grownBy w2 v.ownBlock) :
    w2.cell? ⟨bo, 1, none⟩ = some v ∧ w2.frozen? ⟨bo, 1, none⟩ = false := by
  have hbl : ∀ k, v.ownBlock = some k → bo + 1 ≤ k := fun k hk => (h.own.block k hk).1
  have hsz := h.size
  have hne : some bo ≠ v.ownBlock := fun e => by have := hbl bo e.symm; omega
  exact ⟨(hg.cell_far ⟨bo, 1, none⟩ hsz hne).trans (h.out.cell (show 1 < 2 by omega)), (hg.frozen_far ⟨bo, 1, none⟩ hsz hne).trans (h.out.free (show 1 < 2 by omega))⟩
/-- What is built, without a call in between. -/
theorem DesRel.new (w : World) (n : Int) (dv : Value) (p : Int) (t : TypeId) :
    DesRel w (((w.alloc (.cells #[.int .i64 n, dv] t)).alloc (.cells #[.int .i64 0, .slice none 0 0] t)).alloc (.cells #[.int .i64 p, .slice none 0 0] t)) (w.heap.size + 1 + 1) n dv p (.slice none 0 0) [] :=
  ⟨((pair_new w _ _ _ _ rfl).alloc _).alloc _, (pair_new _ _ _ _ _ (by simp)).alloc _, pair_new _ _ _ _ _ (by simp), ownL_nil _ _, by omega,
    ((below_box w _).trans ((below_box _ _).mono (by simp))).trans ((below_box _ _).mono (by simp; omega))⟩
/-- The same, behind a call. -/
theorem DesRel.late {w w1 : World} {n : Int} {dv : Value} {t : TypeId} (hb : Below ((w.alloc (.cells #[.int .i64 n, dv] t)).alloc (.cells #[.int .i64 0, .slice none 0 0] t)).heap.size ((w.alloc (.cells #[.int .i64 n, dv] t)).alloc (.cells #[.int .i64 0, .slice none 0 0] t)) w1) (p : Int) :
    DesRel w (w1.alloc (.cells #[.int .i64 p, .slice none 0 0] t)) w1.heap.size n dv p (.slice none 0 0) [] := by
  have hz := hb.size
  simp only [World.size_alloc] at hz
  exact ⟨(((pair_new w _ _ _ _ rfl).alloc _).below hb).alloc _, ((pair_new _ _ _ _ _ (by simp)).below hb).alloc _, pair_new _ _ _ _ _ rfl, ownL_nil _ _, by omega,
    ((((below_box w _).trans ((below_box _ _).mono (by simp))).trans (hb.mono (by simp; omega))).trans ((below_box _ _).mono (by omega)))⟩
/-- What is handed back. -/
def DesPost (n : Int) (yss : List (List Int)) (w : World) (e : Ending) (w' : World) : Prop := ∃ v, e = .returned (.agg #[.int .i64 n, v]) ∧ RowsAt w' v yss ∧ Below w.heap.size w w'
def KeepT (yss : List (List Int)) (v : Value) (B : Nat) (w' : World) : Prop := ∀ w'', (∀ b o, B ≤ b → w''.cell? ⟨b, o, none⟩ = w'.cell? ⟨b, o, none⟩) → w'.heap.size ≤ w''.heap.size → RowsAt w'' v yss
def DesPostT (n : Int) (yss : List (List Int)) (e0 : Int) (w : World) (e : Ending) (w' : World) : Prop := ∃ v, e = .returned (.tuple #[.agg #[.int .i64 n, v], .int .i64 e0]) ∧ RowsAt w' v yss ∧ Below w.heap.size w w' ∧ KeepT yss v w.heap.size w'
theorem rows_nil (w : World) : RowsAt w (.slice none 0 0) [] := ⟨none, 0, fun _ => undef, rfl, Nat.le_refl _, by omega, fun _ => rfl, fun i hi => absurd hi (by simp)⟩
theorem DesRel.fin {w wr : World} {bo : Nat} {n : Int} {dv : Value} {p : Int} {v : Value} {yss : List (List Int)} (h : DesRel w wr bo n dv p v yss) (hl : yss.length ≤ 1000000000) (hr : ∀ i, i < yss.length → (rx yss i).length ≤ 1000000000) :
    RowsAt ((wr.setCell ⟨w.heap.size + 1, 0, none⟩ (.int .i64 p)).setCell ⟨w.heap.size + 1, 1, none⟩ v) v yss ∧ Below w.heap.size w ((wr.setCell ⟨w.heap.size + 1, 0, none⟩ (.int .i64 p)).setCell ⟨w.heap.size + 1, 1, none⟩ v) := by
  have hlo := h.lo
  exact ⟨((h.own.setFar (by show w.heap.size + 1 < _; omega) _).setFar (by show w.heap.size + 1 < _; omega) _).rowsAt hl hr, (h.bel.setCell (by show _ ≤ w.heap.size + 1; omega) _).setCell (by show _ ≤ w.heap.size + 1; omega) _⟩
theorem DesRel.last {w wr : World} {bo : Nat} {n : Int} {dv : Value} {p : Int} {v : Value} {yss : List (List Int)} (h : DesRel w wr bo n dv p v yss) :
    Arr ((wr.setCell ⟨w.heap.size + 1, 0, none⟩ (.int .i64 p)).setCell ⟨w.heap.size + 1, 1, none⟩ v) (w.heap.size + 1) 2 (fun j => if j = 0 then .int .i64 p else v) :=
  ((h.res.set (show 0 < 2 by omega) (.int .i64 p)).set (show 1 < 2 by omega) v).congr fun j hj => by
    rcases j with _ | _ | j
    · rfl
    · rfl
    · omega
theorem DesRel.done {w wr : World} {bo : Nat} {n : Int} {dv : Value} {p : Int} {v : Value} {yss : List (List Int)} (h : DesRel w wr bo n dv p v yss) (hl : yss.length ≤ 1000000000) (hr : ∀ i, i < yss.length → (rx yss i).length ≤ 1000000000) :
    DesPost p yss w (.returned (.agg ((List.range 2).map (fun j => if j = 0 then Value.int .i64 p else v)).toArray)) ((wr.setCell ⟨w.heap.size + 1, 0, none⟩ (.int .i64 p)).setCell ⟨w.heap.size + 1, 1, none⟩ v) :=
  ⟨v, rfl, h.fin hl hr⟩
theorem DesRel.doneT {w wr : World} {bo : Nat} {n : Int} {dv : Value} {p : Int} {v : Value} {yss : List (List Int)} (h : DesRel w wr bo n dv p v yss) (hl : yss.length ≤ 1000000000) (hr : ∀ i, i < yss.length → (rx yss i).length ≤ 1000000000) (e0 : Int) :
    DesPostT p yss e0 w (.returned (.tuple #[.agg ((List.range 2).map (fun j => if j = 0 then Value.int .i64 p else v)).toArray, .int .i64 e0])) ((wr.setCell ⟨w.heap.size + 1, 0, none⟩ (.int .i64 p)).setCell ⟨w.heap.size + 1, 1, none⟩ v) := by
  have hlo := h.lo
  exact ⟨v, rfl, (h.fin hl hr).1, (h.fin hl hr).2, fun w'' hc hz => ((h.own.setFar (by show w.heap.size + 1 < _; omega) _).setFar (by show w.heap.size + 1 < _; omega) _).rowsFar hl hr (fun b o hb => hc b o (by omega)) hz⟩
/-- What is handed back with a fault. -/
theorem desT_new (w : World) (n : Int) (dv : Value) (t : TypeId) (e0 : Int) :
    DesPostT 0 [] e0 w (.returned (.tuple #[.agg ((List.range 2).map (fun j => if j = 0 then Value.int .i64 0 else .slice none 0 0)).toArray, .int .i64 e0])) ((w.alloc (.cells #[.int .i64 n, dv] t)).alloc (.cells #[.int .i64 0, .slice none 0 0] t)) :=
  ⟨.slice none 0 0, rfl, rows_nil _, belowTrans (below_box w _) (below_box _ _), fun _ _ _ => rows_nil _⟩
theorem arr_new (w : World) (n : Int) (dv : Value) (t : TypeId) : Arr ((w.alloc (.cells #[.int .i64 n, dv] t)).alloc (.cells #[.int .i64 0, .slice none 0 0] t)) (w.heap.size + 1) 2 (fun j => if j = 0 then Value.int .i64 0 else .slice none 0 0) :=
  pair_new _ _ _ _ _ (by simp)
/-- Some of the rows. -/
def filtTo (c : Nat → Bool) (F : Nat → List Int) : Nat → List (List Int)
  | 0 => []
  | k + 1 => if c k then filtTo c F k ++ [F k] else filtTo c F k
theorem filtTo_yes {c : Nat → Bool} {F : Nat → List Int} {k : Nat} (h : c k = true) : filtTo c F (k + 1) = filtTo c F k ++ [F k] := by rw [filtTo, if_pos h]
theorem filtTo_no {c : Nat → Bool} {F : Nat → List Int} {k : Nat} (h : c k = false) : filtTo c F (k + 1) = filtTo c F k := by rw [filtTo, h]; rfl
theorem filtTo_len (c : Nat → Bool) (F : Nat → List Int) : ∀ k, (filtTo c F k).length ≤ k
  | 0 => Nat.le_refl _
  | k + 1 => by
    have := filtTo_len c F k
    cases e : c k
    · rw [filtTo_no e]; omega
    · rw [filtTo_yes e, List.length_append, List.length_singleton]; omega
theorem filtTo_mem {c : Nat → Bool} {F : Nat → List Int} {l : List Int} : ∀ {k : Nat}, l ∈ filtTo c F k → ∃ i, i < k ∧ c i = true ∧ l = F i
  | 0, h => by simp [filtTo] at h
  | k + 1, h => by
    cases e : c k
    · rw [filtTo_no e] at h
      obtain ⟨i, h1, h2, h3⟩ := filtTo_mem h
      exact ⟨i, by omega, h2, h3⟩
    · rw [filtTo_yes e, List.mem_append, List.mem_singleton] at h
      rcases h with h | h
      · obtain ⟨i, h1, h2, h3⟩ := filtTo_mem h
        exact ⟨i, by omega, h2, h3⟩
      · exact ⟨k, by omega, e, h⟩
theorem filtTo_congr {c d : Nat → Bool} {F G : Nat → List Int} : ∀ {m : Nat}, (∀ i, i < m → c i = d i) → (∀ i, i < m → c i = true → F i = G i) → filtTo c F m = filtTo d G m
  | 0, _, _ => rfl
  | m + 1, h, g => by
    have ih := filtTo_congr (m := m) (fun i hi => h i (by omega)) (fun i hi => g i (by omega))
    rw [filtTo, filtTo, ih, ← h m (by omega)]
    cases e : c m
    · rfl
    · rw [g m (by omega) e]
end Go.Proofs.YtdbfpdhcaiiiaaaDoor

namespace Go.Proofs.YtdbfpdhcaiiiaaaDoor
open Go.RowKit

theorem rise_ext : ∀ {a b : List Int}, a.Pairwise (· < ·) → b.Pairwise (· < ·) → (∀ x, x ∈ a ↔ x ∈ b) → a = b
  | [], [], _, _, _ => rfl
  | [], y :: b, _, _, h => by have := (h y).2 (by simp); simp at this
  | x :: a, [], _, _, h => by have := (h x).1 (by simp); simp at this
  | x :: a, y :: b, ha, hb, h => by
    rw [List.pairwise_cons] at ha hb
    have hxy : x = y := by
      have h1 := (h x).1 (by simp)
      have h2 := (h y).2 (by simp)
      rcases List.mem_cons.1 h1 with e | h1
      · exact e
      · rcases List.mem_cons.1 h2 with e | h2
        · exact e.symm
        · have := hb.1 x h1; have := ha.1 y h2; omega
    subst hxy
    rw [rise_ext ha.2 hb.2 fun z => ?_]
    constructor
    · intro hz
      rcases List.mem_cons.1 ((h z).1 (by simp [hz])) with e | h1
      · subst e; have := ha.1 z hz; omega
      · exact h1
    · intro hz
      rcases List.mem_cons.1 ((h z).2 (by simp [hz])) with e | h1
      · subst e; have := hb.1 z hz; omega
      · exact h1
theorem inc_pair {l : List Int} (h : incB l = true) : l.Pairwise (· < ·) := by
  rw [List.pairwise_iff_getElem]
  intro i j hi hj hij
  have := inc_lt h hij hj
  rw [ix_lt hi, ix_lt hj] at this; exact this
theorem pair_snoc {l : List Int} {x : Int} (h : l.Pairwise (· < ·)) (hx : ∀ y ∈ l, y < x) : (l ++ [x]).Pairwise (· < ·) := by
  rw [List.pairwise_append]
  exact ⟨h, by simp, fun a ha b hb => by rw [List.mem_singleton] at hb; subst hb; exact hx a ha⟩
theorem pickL_pair (p : Nat → Bool) : ∀ m, (pickL p m).Pairwise (· < ·)
  | 0 => List.Pairwise.nil
  | m + 1 => by
    have ih := pickL_pair p m
    cases e : p m
    · rw [pickL_no e]; exact ih
    · rw [pickL_yes e]
      exact pair_snoc ih fun y hy => by
        obtain ⟨j, h1, _, h3⟩ := mem_pickL.1 hy
        omega
/-- A rising list of small numbers is the list of the numbers in it. -/
theorem rise_pick {n : Nat} {l : List Int} (hp : l.Pairwise (· < ·)) (hr : ∀ x ∈ l, 0 ≤ x ∧ x < (n : Int)) {q : Nat → Bool} (hq : ∀ j : Nat, j < n → (q j = true ↔ (j : Int) ∈ l)) : l = pickL q n := by
  refine rise_ext hp (pickL_pair _ _) fun x => ?_
  rw [mem_pickL]
  constructor
  · intro hx
    have := hr x hx
    obtain ⟨j, rfl⟩ := Int.eq_ofNat_of_zero_le this.1
    exact ⟨j, by omega, (hq j (by omega)).2 hx, rfl⟩
  · rintro ⟨j, h1, h2, rfl⟩
    exact (hq j h1).1 h2
theorem ix_of_mem {xs : List Int} {x : Int} (h : x ∈ xs) : ∃ i, i < xs.length ∧ ix xs i = x := by
  obtain ⟨i, hi, e⟩ := List.getElem_of_mem h
  exact ⟨i, hi, by rw [ix_lt hi]; exact e⟩
theorem IsBlock.pair {n : Int} {b : List Int} (h : IsBlock n b) : b.Pairwise (· < ·) := inc_pair h.inc
theorem IsBlock.mem_rng {n : Int} {b : List Int} (h : IsBlock n b) {x : Int} (hx : x ∈ b) : 0 ≤ x ∧ x < n := by
  obtain ⟨i, hi, rfl⟩ := ix_of_mem hx
  exact h.rng i hi
theorem IsBlock.len {n : Nat} {b : List Int} (h : IsBlock n b) : b.length ≤ n := by
  have := inc_len h.rng h.inc (by omega)
  omega
/-- A rising list of small numbers is a block. -/
theorem block_pair {n : Int} {b : List Int} (hp : b.Pairwise (· < ·)) (hr : ∀ x ∈ b, 0 ≤ x ∧ x < n) : IsBlock n b := by
  refine ⟨fun k hk => hr _ (ix_mem hk), inc_of fun i j hij hj => ?_⟩
  rw [List.pairwise_iff_getElem] at hp
  have := hp i j (by omega) hj hij
  rw [ix_lt (show i < b.length by omega), ix_lt hj]; exact this
end Go.Proofs.YtdbfpdhcaiiiaaaDoor
