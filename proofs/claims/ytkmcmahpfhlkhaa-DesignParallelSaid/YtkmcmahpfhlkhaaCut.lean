/-
  Contract: the reference's cut, walked. No condition.
-/
import Derived.Test.YtkmcmahpfhlkhaaCutW
namespace Go.Proofs.Ytkmcmahpfhlkhaa
open Go.RowKit

def blkS (xss : List (List Int)) (i : Nat) : Nat := setOf (rx xss i)
/-- Does a block hold x, and do the first of its points lie in S? -/
def okC (S : Nat) (b : List Int) (x : Nat) : Nat → Bool
  | 0 => mem b (x : Int)
  | j + 1 => okC S b x j && tb S (ix b j).toNat
theorem okC_false {S : Nat} {b : List Int} {x j : Nat} (h : okC S b x j = false) : ∀ {m : Nat}, j ≤ m → okC S b x m = false
  | 0, hm => by obtain rfl : j = 0 := by omega
                exact h
  | m + 1, hm => by
    by_cases e : j = m + 1
    · subst e; exact h
    · rw [okC, okC_false h (m := m) (by omega)]; rfl
theorem okC_iff {S : Nat} {b : List Int} {x : Nat} : ∀ {m : Nat}, okC S b x m = true ↔ mem b (x : Int) = true ∧ ∀ j, j < m → tb S (ix b j).toNat = true
  | 0 => by rw [okC]; exact ⟨fun h => ⟨h, fun j hj => absurd hj (Nat.not_lt_zero _)⟩, fun h => h.1⟩
  | m + 1 => by
    rw [okC, Bool.and_eq_true, okC_iff (m := m)]
    constructor
    · rintro ⟨⟨h1, h2⟩, h3⟩
      refine ⟨h1, fun j hj => ?_⟩
      by_cases e : j = m
      · subst e; exact h3
      · exact h2 j (by omega)
    · rintro ⟨h1, h2⟩; exact ⟨⟨h1, fun j hj => h2 j (by omega)⟩, h2 m (by omega)⟩
theorem okC_set {n S : Nat} {b : List Int} {x : Nat} (hn : n ≤ 60) (hS : S < 2 ^ n) (hb : IsBlock n b) : okC S b x b.length = true ↔ tb (setOf b) x = true ∧ dn (setOf b) S = 0 := by
  rw [okC_iff, tb_setOf hb, dn_zero hn (setOf_lt hb) hS]
  constructor
  · rintro ⟨h1, h2⟩
    refine ⟨h1, fun y _ hy => ?_⟩
    rw [tb_setOf hb, mem_iff] at hy
    obtain ⟨j, hj, e⟩ := ix_of_mem hy
    have := h2 j hj
    rw [e] at this; exact this
  · rintro ⟨h1, h2⟩
    refine ⟨h1, fun j hj => ?_⟩
    have hr := hb.rng j hj
    refine h2 _ (by omega) ?_
    rw [tb_setOf hb, mem_iff]
    have : (((ix b j).toNat : Nat) : Int) = ix b j := by omega
    rw [this]; exact ix_mem hj
def CutPost (bd bc n M : Nat) (g : Nat → Bool) (b : Bool) (w : World) : Ending → World → Prop := fun e w' => e = .returned (.bool b) ∧ Keep2 bd bc w w' ∧ Flags w' bd n g ∧ ∃ f, Flags w' bc M f
/-- The contract, for sets of few points. -/
def CutOK (W0 : World) (n k : Nat) (xss : List (List Int)) (vr : Value) (bd bc fuel : Nat) : Prop := ∀ (S : Nat) (f : Nat → Bool) (w : World), S < 2 ^ n → cntS S n ≤ fuel → Below W0.heap.size W0 w →
    Flags w bd n (fun y => !tb S y) → Flags w bc (xss.length - k) f →
    Calls Try.prog 49 #[.agg #[.int .i64 n, vr], .slice (some ⟨bd, 0, none⟩) n n, .slice (some ⟨bc, 0, none⟩) (xss.length - k) (xss.length - k)] w
      (CutPost bd bc n (xss.length - k) (fun y => !tb S y) (par (blkS xss) xss.length (xss.length - k) S).isSome w)

/-- What stands in memory behind i blocks, none of which serves. -/
structure CutRel (W0 w wr : World) (n k : Nat) (xss : List (List Int)) (vr : Value) (bd bc M S x i : Nat) (f : Nat → Bool) : Prop where
  no : ∀ i', i' < i → tb (blkS xss (k + i')) x = true → dn (blkS xss (k + i')) S = 0 → (par (blkS xss) xss.length M (dn S (blkS xss (k + i')))).isSome = false
  box : Arr wr w.heap.size 2 (fun j => if j = 0 then .int .i64 (n : Nat) else vr)
  keep : Keep2 bd bc w wr
  done : Flags wr bd n (fun y => !tb S y)
  chosen : Flags wr bc M f
theorem CutRel.next {W0 w wr : World} {n k : Nat} {xss : List (List Int)} {vr : Value} {bd bc M S x i : Nat} {f : Nat → Bool} (h : CutRel W0 w wr n k xss vr bd bc M S x i f)
    (hf : tb (blkS xss (k + i)) x = true → dn (blkS xss (k + i)) S = 0 → (par (blkS xss) xss.length M (dn S (blkS xss (k + i)))).isSome = false) : CutRel W0 w wr n k xss vr bd bc M S x (i + 1) f :=
  ⟨fun i' hi' => by
    by_cases e : i' = i
    · subst e; exact hf
    · exact h.no i' (by omega), h.box, h.keep, h.done, h.chosen⟩
/-- What stands in memory while the flags of a block are set or struck. -/
structure CutQ (w wr : World) (n : Nat) (vr : Value) (bd bc M : Nat) (g : Nat → Bool) (f : Nat → Bool) : Prop where
  box : Arr wr w.heap.size 2 (fun j => if j = 0 then .int .i64 (n : Nat) else vr)
  keep : Keep2 bd bc w wr
  done : Flags wr bd n g
  chosen : Flags wr bc M f
theorem CutQ.putD {w wr : World} {n : Nat} {vr : Value} {bd bc M : Nat} {g g' f : Nat → Bool} (h : CutQ w wr n vr bd bc M g f) (hb : w.heap.size ≠ bd) (hne : bd ≠ bc) {j : Nat} (hj : j < n) (v : Bool) (he : ∀ y, y < n → fcell g j v y = g' y) :
    CutQ w (wr.setCell ⟨bd, j, none⟩ (.bool v)) n vr bd bc M g' f :=
  ⟨h.box.setOther (Ne.symm hb) _, h.keep.trans (Keep2.set (bd := bd) (bc := bc) wr (p := ⟨bd, j, none⟩) (.inl rfl) _), (h.done.putB hj v).congr (fun y hy => by rw [he y hy]), h.chosen.setOther hne _⟩
theorem CutQ.putC {w wr : World} {n : Nat} {vr : Value} {bd bc M : Nat} {g f : Nat → Bool} (h : CutQ w wr n vr bd bc M g f) (hb : w.heap.size ≠ bc) (hne : bd ≠ bc) {j : Nat} (hj : j < M) (v : Bool) :
    CutQ w (wr.setCell ⟨bc, j, none⟩ (.bool v)) n vr bd bc M g (fcell f j v) :=
  ⟨h.box.setOther (Ne.symm hb) _, h.keep.trans (Keep2.set (bd := bd) (bc := bc) wr (p := ⟨bc, j, none⟩) (.inr rfl) _), h.done.setOther (Ne.symm hne) _, h.chosen.putB hj v⟩
theorem block_len {n : Nat} {b : List Int} (h : IsBlock n b) (hn : n ≤ 40) : b.length ≤ 40 := by
  have := inc_len h.rng h.inc (by omega); omega

set_option maxRecDepth 100000 in
set_option maxHeartbeats 4000000 in
theorem cut_step (W0 : World) (n k : Nat) (xss : List (List Int)) (vr : Value) (bd bc fuel : Nat) (hD : IsDes n xss) (hk : k ≤ xss.length) (hr : RowsAt W0 vr (xss.drop k)) (h1 : W0.heap.size ≤ bd) (h2 : W0.heap.size ≤ bc) (hne : bd ≠ bc)
    (ih : ∀ f, fuel = f + 1 → CutOK W0 n k xss vr bd bc f) : CutOK W0 n k xss vr bd bc fuel := by
  intro S f w hS hcnt hbel hfd hfc
  have hn40 : n ≤ 40 := by have := hD.hi; omega
  have hn1 : 1 ≤ n := by have := hD.lo; omega
  have HD := Lib.hid hD
  have hB : ∀ i, i < xss.length → blkS xss i < 2 ^ n := fun i hi => setOf_lt (hD.all i hi)
  have HB := Lib.hid hB
  have HS := Lib.hid hS
  have IH := Lib.hid ih
  have HC := Lib.hid hcnt
  have HBl := Lib.hid hbel
  have hM : (xss.drop k).length = xss.length - k := List.length_drop
  have hM200 : xss.length - k ≤ 200 := by have := hD.few; omega
  have hbd := hfd.lt; have hbc := hfc.lt
  have HRx : Hid (∀ i, rx (xss.drop k) i = rx xss (k + i)) := fun i => by unfold rx; rw [List.getD_eq_getElem?_getD, List.getD_eq_getElem?_getD, List.getElem?_drop]
  obtain ⟨a, c, V, rfl, q1, q2, _, q3⟩ := hr
  rw [hM] at q1 q3 IH ⊢
  have HX := Lib.hid q3
  have HNo := Lib.hid (fun x hx hxS hf => cut_no (B := blkS xss) (n := n) (N := xss.length) (k := k) (S := S) (x := x) (by omega) hB hk hS hx hxS hf)
  have HYes := Lib.hid (fun i => cut_yes (B := blkS xss) (n := n) (N := xss.length) (k := k) (S := S) (i := i) (by omega) hB hk hS)
  have hz0 : (S = 0) → (par (blkS xss) xss.length (xss.length - k) S).isSome = true := fun e => by
    cases xss.length - k <;> (rw [par, if_pos e]; rfl)
  have HZ0 := Lib.hid hz0
  have HA1 := Lib.hid (pair_new w (.int .i64 n) (.slice a (xss.length - k) c) 24 _ rfl)
  have HK1 : Hid (Keep2 bd bc w (w.alloc (.cells #[.int .i64 n, .slice a (xss.length - k) c] 24))) := Keep2.of (below_box w _)
  have HFd : Hid (Flags (w.alloc (.cells #[.int .i64 n, .slice a (xss.length - k) c] 24)) bd n (fun y => !tb S y)) := Arr.alloc hfd _
  have HFc : Hid (Flags (w.alloc (.cells #[.int .i64 n, .slice a (xss.length - k) c] 24)) bc (xss.length - k) f) := Arr.alloc hfc _
  clear hz0 hB hD hfd hfc ih hcnt hbel q3 hS hM
  generalize hMM : xss.length - k = M at *
  have HMM := Lib.hid hMM
  clear hMM
  go_enter Try.func49, Try.ntmps49
  go_wp2_with fail
  go_loop [7] (fun sx => ∃ x : Nat, x ≤ n ∧ sx = .int .i64 x ∧ ∀ y, y < x → tb S y = false) (fun sx => n - (intOf sx).toNat)
  case atStart => exact ⟨0, by omega, rfl, fun y hy => by omega⟩
  case round =>
    obtain ⟨x, hx, rfl, hno⟩ := hrel
    have HNx := Lib.hid hno
    clear hno
    by_cases hlt : x < n
    · have c1 := Arr.cell HFd.out hlt
      cases e : tb S x
      · have He := Lib.hid e
        simp only [e] at c1
        clear e
        have i1 : ((x : Nat) : Int) < ((n : Nat) : Int) := by omega
        go_wp2_with fail
        go_round
        case rel => exact ⟨x + 1, by omega, by go_num, fun y hy => by
          by_cases e : y = x
          · subst e; exact He.out
          · exact HNx.out y (by omega)⟩
        case measure => simp [intOf]; omega
      · have He := Lib.hid e
        simp only [e] at c1
        clear e
        have i1 : ((x : Nat) : Int) < ((n : Nat) : Int) := by omega
        go_wp2_with fail
        clear c1 i1
        go_loopw [8] (fun si wr => ∃ (i : Nat) (f' : Nat → Bool), i ≤ M ∧ si = .int .i64 i ∧ CutRel W0 w wr n k xss (.slice a M c) bd bc M S x i f') (fun si _ => M - (intOf si).toNat)
        case atStart => exact ⟨0, f, by omega, rfl, ⟨fun i' hi' => by omega, HA1.out, HK1.out, HFd.out, HFc.out⟩⟩
        case round =>
          obtain ⟨i, f', hi, rfl, hR⟩ := hrel
          have HR := Lib.hid hR
          have hbx : w.heap.size ≠ bd := by omega
          have hbx2 : w.heap.size ≠ bc := by omega
          have b0 := hR.box.cell (show 0 < 2 by omega); have b1 := hR.box.cell (show 1 < 2 by omega)
          clear hR
          by_cases hil : i < M
          · have HBr : Hid (Below W0.heap.size W0 wr) := Keep2.below HBl.out HR.out.keep h1 h2
            obtain ⟨hrow, b, o, rfl, hbb, hcc⟩ := HX.out i hil
            have cV : wr.cell? ⟨b, o + i, none⟩ = some (V i) := by rw [(bcell HBr.out).1 _ _ hbb]; exact hcc i hil
            rw [HRx.out i] at hrow
            have hki : k + i < xss.length := by have := HMM.out; omega
            have HBk := Lib.hid (HD.out.all (k + i) hki)
            have HI := Lib.hid (hrow.below HBr.out)
            obtain ⟨va, vc, hV, _⟩ := id hrow
            have HIW : Hid (∀ W, Below W0.heap.size W0 W → IntsAt W (V i) (rx xss (k + i))) := fun W hW => hrow.below hW
            rw [hV] at cV HI HIW
            have HLi := Lib.hid (lies_any (x : Int) _ _ wr HI.out)
            have HBs : Hid (blkS xss (k + i) = setOf (rx xss (k + i))) := rfl
            clear hrow hcc hV
            generalize rx xss (k + i) = bl at *
            have hbl40 : bl.length ≤ 40 := block_len HBk.out (by omega)
            go_wp2_with fail
            refine (HLi.out).mono ?_
            rintro e w' ⟨rfl, rfl⟩
            clear HLi
            go_wp2_with fail
            go_loop [11, 10] (fun sj so => ∃ j : Nat, j ≤ bl.length ∧ sj = .int .i64 j ∧ so = .bool (okC S bl x j)) (fun sj _ => bl.length - (intOf sj).toNat)
            case atStart => exact ⟨0, by omega, rfl, rfl⟩
            case round =>
              obtain ⟨j, hj, rfl, rfl⟩ := hrel
              have HO : Hid (okC S bl x (j + 1) = (okC S bl x j && tb S (ix bl j).toNat)) := rfl
              have HFail : Hid (okC S bl x bl.length = false → CutRel W0 w wr n k xss (.slice (some ⟨b, o, none⟩) M c) bd bc M S x (i + 1) f') := fun h => HR.out.next (fun h1 h2 => by
                rw [HBs.out] at h1 h2
                have := (okC_set (x := x) (by omega) HS.out HBk.out).2 ⟨h1, h2⟩
                rw [h] at this; cases this)
              cases e1 : okC S bl x j
              · have HF1 := Lib.hid (HFail.out (okC_false e1 hj))
                clear e1
                by_cases hjl : j < bl.length
                all_goals
                  go_wp2_with fail
                  go_roundw
                  case rel => exact ⟨i + 1, f', by omega, by go_num, HF1.out⟩
                  case measure => simp [intOf]; omega
              · by_cases hjl : j < bl.length
                · obtain ⟨_, _, ev, _, _, _, h5⟩ := HI.out
                  injection ev with ev1 ev2 ev3
                  subst ev1; subst ev3
                  clear ev2
                  obtain ⟨bb, oo, rfl, hbbb, hc5⟩ := h5 j hjl
                  have cj := hc5 j hjl
                  have hrj := HBk.out.rng j hjl
                  obtain ⟨y, hy⟩ := Int.eq_ofNat_of_zero_le hrj.1
                  rw [hy] at cj hrj
                  have hyn : y < n := by omega
                  have hyi : (y : Int) < (n : Int) := by omega
                  have cy := Arr.cell HR.out.done hyn
                  have HO2 : Hid (okC S bl x (j + 1) = tb S y) := by show _ = _; rw [HO.out, e1, hy]; rfl
                  clear hc5 h5 hy e1
                  cases e2 : tb S y
                  all_goals
                    rw [e2] at HO2
                    simp only [e2] at cy
                    clear e2
                    go_wp2_with fail
                    go_round
                    case rel => exact ⟨j + 1, by omega, by go_num, by rw [HO2.out]⟩
                    case measure => simp [intOf]; omega
                · obtain rfl : j = bl.length := by omega
                  have HOk := Lib.hid ((okC_set (x := x) (by omega) HS.out HBk.out).1 e1)
                  clear e1 HFail HO
                  have HTS : Hid (∀ y, tb (dn S (setOf bl)) y = (tb S y && !tb (setOf bl) y)) := fun y => tb_dn (Nat.lt_of_lt_of_le HS.out (Nat.le_trans (pow60 (by omega)) (by omega))) (Nat.lt_of_lt_of_le (setOf_lt HBk.out) (Nat.le_trans (pow60 (by omega)) (by omega))) y
                  have HTM : Hid (∀ y : Nat, tb (setOf bl) y = mem bl (y : Int)) := fun y => tb_setOf HBk.out y
                  have HSub : Hid (∀ y, y < n → mem bl (y : Int) = true → tb S y = true) := fun y hy h => (dn_zero (by omega) (setOf_lt HBk.out) HS.out).1 HOk.out.2 y hy (by rw [HTM.out]; exact h)
                  go_wp2_with fail
                  go_loopw [12] (fun sj wr => ∃ j : Nat, j ≤ bl.length ∧ sj = .int .i64 j ∧ CutQ w wr n (.slice (some ⟨b, o, none⟩) M c) bd bc M (fun y => !tb S y || mem (bl.take j) (y : Int)) f') (fun sj _ => bl.length - (intOf sj).toNat)
                  case atStart => exact ⟨0, by omega, rfl, ⟨HR.out.box, HR.out.keep, HR.out.done.congr (fun y _ => by simp [mem]), HR.out.chosen⟩⟩
                  case round =>
                    clear b0 b1 cV
                    obtain ⟨j, hj, rfl, hQ⟩ := hrel
                    have HQ := Lib.hid hQ
                    have HIq := Lib.hid (HIW.out wr (Keep2.below HBl.out hQ.keep h1 h2))
                    clear hQ
                    by_cases hjl : j < bl.length
                    · obtain ⟨_, _, ev, _, _, _, h5⟩ := HIq.out
                      injection ev with ev1 ev2 ev3
                      subst ev1; subst ev3
                      clear ev2
                      obtain ⟨bb, oo, rfl, hbbb, hc5⟩ := h5 j hjl
                      have cj := hc5 j hjl
                      have hrj := HBk.out.rng j hjl
                      obtain ⟨y, hy⟩ := Int.eq_ofNat_of_zero_le hrj.1
                      rw [hy] at cj hrj
                      have hyn : y < n := by omega
                      have hyi : (y : Int) < (n : Int) := by omega
                      have cy := Arr.cell HQ.out.done hyn
                      have cf := Arr.free HQ.out.done hyn
                      have HQ2 : Hid (CutQ w (wr.setCell ⟨bd, y, none⟩ (.bool true)) n (.slice (some ⟨b, o, none⟩) M c) bd bc M (fun y => !tb S y || mem (bl.take (j + 1)) (y : Int)) f') := HQ.out.putD hbx hne hyn true (fun u _ => by
                        unfold fcell
                        rw [mem_take _ hjl, hy]
                        by_cases e : u = y
                        · subst e; rw [if_pos rfl]; simp
                        · rw [if_neg e]
                          have : ((y : Int) == (u : Int)) = false := by simp; omega
                          rw [this, Bool.or_false])
                      clear hc5 h5 hy
                      generalize (!tb S y || mem (bl.take j) (y : Int)) = old at cy
                      go_wp2_with fail
                      go_roundw
                      case rel => exact ⟨j + 1, by omega, by go_num, HQ2.out⟩
                      case measure => simp [intOf]; omega
                    · obtain rfl : j = bl.length := by omega
                      have HQ3 : Hid (CutQ w (wr.setCell ⟨bc, i, none⟩ (.bool true)) n (.slice (some ⟨b, o, none⟩) M c) bd bc M (fun y => !tb (dn S (setOf bl)) y) (fcell f' i true)) := by
                        have := HQ.out.putC hbx2 hne hil true
                        exact ⟨this.box, this.keep, this.done.congr (fun y _ => by
                          show Value.bool (!tb S y || mem (bl.take bl.length) (y : Int)) = Value.bool (!tb (dn S (setOf bl)) y)
                          rw [List.take_length, HTS.out, HTM.out]; cases tb S y <;> cases mem bl (y : Int) <;> rfl), this.chosen⟩
                      have q0 := HQ.out.box.cell (show 0 < 2 by omega); have q1' := HQ.out.box.cell (show 1 < 2 by omega)
                      have cc1 := Arr.cell HQ.out.chosen hil
                      have cc2 := Arr.free HQ.out.chosen hil
                      have hiM : ((i : Nat) : Int) < ((M : Nat) : Int) := by omega
                      obtain ⟨fl, hfl⟩ : ∃ fl, fuel = fl + 1 ∧ cntS (dn S (setOf bl)) n ≤ fl := by
                        have h3 : cntS (dn S (setOf bl)) n < cntS S n := cntS_lt (x := x) hlt He.out (by rw [HTS.out, He.out, HOk.out.1]; rfl) (fun y _ h => by
                          rw [HTS.out, Bool.and_eq_true] at h; exact h.1)
                        have := HC.out
                        exact ⟨fuel - 1, by omega, by omega⟩
                      have hokf := IH.out fl hfl.1 (dn S (setOf bl)) (fcell f' i true) (wr.setCell ⟨bc, i, none⟩ (.bool true)) (dn_lt HS.out) hfl.2 (Keep2.below HBl.out HQ3.out.keep h1 h2) HQ3.out.done (by rw [HMM.out]; exact HQ3.out.chosen)
                      rw [HMM.out] at hokf
                      have HCall := Lib.hid hokf
                      have HOut : Hid ((par (blkS xss) xss.length M (dn S (setOf bl))).isSome = true → (par (blkS xss) xss.length M S).isSome = true) := fun h => by
                        have := HYes.out (k + i) (by omega) hki (fun e => by
                          have h4 := HOk.out.1
                          rw [← HBs.out, e] at h4
                          simp [tb] at h4) (by rw [HBs.out]; exact HOk.out.2) (by rw [HBs.out]; exact h)
                        exact this
                      clear hfl hokf
                      generalize f' i = old at cc1
                      go_wp2_with fail
                      refine (HCall.out).mono ?_
                      rintro e w5 ⟨rfl, hk5, hd5, f5, hc5⟩
                      have HK5 := Lib.hid hk5; have HD5 := Lib.hid hd5; have HC5 := Lib.hid hc5
                      have HB5 : Hid (Arr w5 w.heap.size 2 (fun j => if j = 0 then .int .i64 (n : Nat) else .slice (some ⟨b, o, none⟩) M c)) := hk5.arr HQ3.out.box hbx hbx2
                      clear hk5 hd5 hc5 HCall
                      generalize hpar : (par (blkS xss) xss.length M (dn S (setOf bl))).isSome = P at *
                      have HPar := Lib.hid hpar
                      clear hpar q0 q1' cc1 cc2
                      go_wp2_with fail
                      go_loopw [14] (fun sj wr => ∃ j : Nat, j ≤ bl.length ∧ sj = .int .i64 j ∧ CutQ w wr n (.slice (some ⟨b, o, none⟩) M c) bd bc M (fun y => !tb (dn S (setOf bl)) y && !mem (bl.take j) (y : Int)) f5) (fun sj _ => bl.length - (intOf sj).toNat)
                      case atStart => exact ⟨0, by omega, rfl, ⟨HB5.out, HQ3.out.keep.trans HK5.out, HD5.out.congr (fun y _ => by simp [mem]), HC5.out⟩⟩
                      case round =>
                        clear HQ HQ3
                        obtain ⟨j, hj, rfl, hQ⟩ := hrel
                        have HQ := Lib.hid hQ
                        have HIq := Lib.hid (HIW.out wr (Keep2.below HBl.out hQ.keep h1 h2))
                        clear hQ
                        by_cases hjl : j < bl.length
                        · obtain ⟨_, _, ev, _, _, _, h5⟩ := HIq.out
                          injection ev with ev1 ev2 ev3
                          subst ev1; subst ev3
                          clear ev2
                          obtain ⟨bb, oo, rfl, hbbb, hc5⟩ := h5 j hjl
                          have cj := hc5 j hjl
                          have hrj := HBk.out.rng j hjl
                          obtain ⟨y, hy⟩ := Int.eq_ofNat_of_zero_le hrj.1
                          rw [hy] at cj hrj
                          have hyn : y < n := by omega
                          have hyi : (y : Int) < (n : Int) := by omega
                          have cy := Arr.cell HQ.out.done hyn
                          have cf := Arr.free HQ.out.done hyn
                          have HQ2 : Hid (CutQ w (wr.setCell ⟨bd, y, none⟩ (.bool false)) n (.slice (some ⟨b, o, none⟩) M c) bd bc M (fun y => !tb (dn S (setOf bl)) y && !mem (bl.take (j + 1)) (y : Int)) f5) := HQ.out.putD hbx hne hyn false (fun u _ => by
                            unfold fcell
                            rw [mem_take _ hjl, hy]
                            by_cases e : u = y
                            · subst e; rw [if_pos rfl]; simp
                            · rw [if_neg e]
                              have : ((y : Int) == (u : Int)) = false := by simp; omega
                              rw [this, Bool.or_false])
                          clear hc5 h5 hy
                          generalize (!tb (dn S (setOf bl)) y && !mem (bl.take j) (y : Int)) = old at cy
                          go_wp2_with fail
                          go_roundw
                          case rel => exact ⟨j + 1, by omega, by go_num, HQ2.out⟩
                          case measure => simp [intOf]; omega
                        · obtain rfl : j = bl.length := by omega
                          have HQd : Hid (Flags wr bd n (fun y => !tb S y)) := HQ.out.done.congr (fun y hy => by
                            have := HSub.out y hy
                            show Value.bool (!tb (dn S (setOf bl)) y && !mem (bl.take bl.length) (y : Int)) = Value.bool (!tb S y)
                            rw [List.take_length, HTS.out, HTM.out]
                            cases e1 : mem bl (y : Int)
                            · cases tb S y <;> rfl
                            · rw [this e1]; rfl)
                          cases P
                          · have HF5 : Hid (CutRel W0 w (wr.setCell ⟨bc, i, none⟩ (.bool false)) n k xss (.slice (some ⟨b, o, none⟩) M c) bd bc M S x (i + 1) (fcell f5 i false)) := by
                              have q := HQ.out.putC hbx2 hne hil false
                              refine CutRel.next ⟨HR.out.no, q.box, q.keep, HQd.out.setOther (Ne.symm hne) _, q.chosen⟩ (fun _ _ => ?_)
                              rw [HBs.out]; exact HPar.out
                            have cc1 := Arr.cell HQ.out.chosen hil
                            have cc2 := Arr.free HQ.out.chosen hil
                            generalize f5 i = old at cc1
                            go_wp2_with fail
                            go_roundw
                            case rel => exact ⟨i + 1, _, by omega, by go_num, HF5.out⟩
                            case measure => simp [intOf]; omega
                          · have HE := Lib.hid (HOut.out rfl)
                            go_wp2_with fail
                            go_ret
                            exact ⟨ret_bool HE.out.symm, HQ.out.keep, HQd.out, _, HQ.out.chosen⟩
          · obtain rfl : i = M := by omega
            have HE : Hid ((par (blkS xss) xss.length i S).isSome = false) := by
              show _ = _
              have := HNo.out x hlt He.out (fun i' h1 h2 h3 h4 => by
                have := HR.out.no (i' - k) (by have := HMM.out; omega)
                rw [show k + (i' - k) = i' by omega] at this
                exact this h3 h4)
              exact this
            go_wp2_with fail
            go_ret
            exact ⟨ret_bool HE.out.symm, HR.out.keep, HR.out.done, _, HR.out.chosen⟩
    · obtain rfl : x = n := by omega
      have HE : Hid ((par (blkS xss) xss.length M S).isSome = true) := HZ0.out ((zero_iff HS.out).2 HNx.out)
      go_wp2_with fail
      go_ret
      exact ⟨ret_bool HE.out.symm, HK1.out, HFd.out, _, HFc.out⟩
end Go.Proofs.Ytkmcmahpfhlkhaa
