/-
  Singer's set of the program and that of the reference are one: reckoned, for the four sizes whose ring fits. No program in sight. No condition.
  Paley's sets are of a level: reckoned. No program in sight. No condition.
  Singer's sets are of a level: reckoned, for the four sizes whose ring fits. No program in sight. No condition.
  Contract: differ.isPrime, of numbers that a ring holds. No condition.
-/
import Derived.Test.YtdbfpdhcaiiiaaaDoorPDifferMade24
import Derived.Test.YtdbfpdhcaiiiaaaDoorPDifferMade37
import Derived.Test.YtdbfpdhcaiiiaaaDoorPDifferMade10
namespace Go.Proofs.YtdbfpdhcaiiiaaaDoor
open Go.RowKit

def traG (A : Nat → Nat → Nat) (P : Nat → Nat) : Nat → Nat → Nat → Nat
  | 0, s, _ => s
  | k + 1, s, a => traG A P k (A s a) (P a)
theorem traS_G {p d : Nat} {low : List Int} (hF : IsField p d low) : ∀ k s a, traS p d low k s a = traG (addC p d) (fun a => powS (mulC p (lowN low)) 7 1 a p) k s a
  | 0, _, _ => rfl
  | k + 1, s, a => by rw [traS, traG, traS_G hF k, addV_of, mulM_of hF]
theorem timM_of {p d : Nat} {low : List Int} (hF : IsField p d low) : timM p d low = timC p (lowN low) := by
  funext a b; exact timesM_of hF a b
theorem rtrS_G {p d : Nat} {low : List Int} (hF : IsField p d low) : ∀ k s a, rtrS p d low k s a = traG (addC p d) (fun a => rpwS (timC p (lowN low)) a p) k s a
  | 0, _, _ => rfl
  | k + 1, s, a => by rw [rtrS, traG, rtrS_G hF k, addV_of, timM_of hF]
/-- A number made plain before it is used. -/
def fce {α : Type} (n : Nat) (f : Nat → α) : α := match n with
  | 0 => f 0
  | k + 1 => f (k + 1)
theorem fce_eq {α : Type} (n : Nat) (f : Nat → α) : fce n f = f n := by cases n <;> rfl
def traF (A : Nat → Nat → Nat) (P : Nat → Nat) : Nat → Nat → Nat → Nat
  | 0, s, _ => s
  | k + 1, s, a => fce (A s a) fun s' => fce (P a) fun a' => traF A P k s' a'
theorem traF_eq (A : Nat → Nat → Nat) (P : Nat → Nat) : ∀ k s a, traF A P k s a = traG A P k s a
  | 0, _, _ => rfl
  | k + 1, s, a => by rw [traF, fce_eq, fce_eq, traF_eq A P k, traG]
def powF (M : Nat → Nat → Nat) : Nat → Nat → Nat → Nat → Nat
  | 0, out, _, _ => out
  | f + 1, out, a, n => if n = 0 then out else fce (if n % 2 = 1 then M out a else out) fun o => fce (M a a) fun a' => powF M f o a' (n / 2)
theorem powF_eq (M : Nat → Nat → Nat) : ∀ f o a n, powF M f o a n = powS M f o a n
  | 0, _, _, _ => rfl
  | f + 1, o, a, n => by rw [powF, powS]; split; · rfl
                         rw [fce_eq, fce_eq, powF_eq M f]
def rpwF (M : Nat → Nat → Nat) (a : Nat) : Nat → Nat
  | 0 => 1
  | i + 1 => fce (rpwF M a i) fun x => M x a
theorem rpwF_eq (M : Nat → Nat → Nat) (a : Nat) : ∀ i, rpwF M a i = rpwS M a i
  | 0 => rfl
  | i + 1 => by rw [rpwF, fce_eq, rpwF_eq M a i, rpwS]
def rordF (M : Nat → Nat → Nat) (a q : Nat) : Nat → Nat → Nat → Nat × Nat
  | 0, x, n => (x, n)
  | f + 1, x, n => if x ≠ 1 ∧ n < q then fce (M x a) fun y => rordF M a q f y (n + 1) else (x, n)
theorem rordF_eq (M : Nat → Nat → Nat) (a q : Nat) : ∀ f x n, rordF M a q f x n = rordS M a q f x n
  | 0, _, _ => rfl
  | f + 1, x, n => by rw [rordF, rordS, fce_eq, rordF_eq M a q f]
def rootedF (M : Nat → Nat → Nat) (q a : Nat) : Bool := match rordF M a q 70 a 1 with
  | (x, n) => x == 1 && n == q - 1
def rrootF (M : Nat → Nat → Nat) (q : Nat) : Nat → Nat → Nat
  | 0, _ => 0
  | f + 1, a => if a < q then (if rootedF M q a then a else rrootF M q f (a + 1)) else 0
theorem rrootF_eq (M : Nat → Nat → Nat) (q : Nat) : ∀ f a, rrootF M q f a = rrootS M q f a
  | 0, _ => rfl
  | f + 1, a => by
    rw [rrootF, rrootS, rrootF_eq M q f]
    unfold rootedF
    rw [rordF_eq]
    simp only [Bool.and_eq_true, beq_iff_eq]
/-- The powers whose trace is naught, one by one. -/
def sinF (M : Nat → Nat → Nat) (T : Nat → Bool) (r : Nat) : Nat → Nat → List Bool
  | 0, _ => []
  | n + 1, a => T a :: fce (M a r) fun b => sinF M T r n b
theorem sinF_get (M : Nat → Nat → Nat) (T : Nat → Bool) (r : Nat) : ∀ n k i, i < n → (sinF M T r n (pwS M r k))[i]? = some (T (pwS M r (k + i)))
  | 0, _, _, h => by omega
  | n + 1, k, 0, _ => by rw [sinF]; rfl
  | n + 1, k, i + 1, h => by
    rw [sinF, fce_eq, List.getElem?_cons_succ]
    have := sinF_get M T r n (k + 1) i (by omega)
    rw [show pwS M r (k + 1) = M (pwS M r k) r from rfl] at this
    rw [this, show k + 1 + i = k + (i + 1) by omega]
def trB (p d : Nat) (P : Nat → Nat) (a : Nat) : Bool := traF (addC p d) P d 0 a == 0
/-- Both sets, by their roots. -/
def singEq (p d : Nat) : Bool := (lows p d).all fun l => !irrC p d l || (List.range (p ^ d)).any fun r =>
  rootS (mulC p l) (p ^ d) 62 1 == some r && (rrootF (timC p l) (p ^ d) 70 1 == r &&
    sinF (mulC p l) (trB p d fun a => powF (mulC p l) 7 1 a p) r (ringV p d) 1 == sinF (timC p l) (trB p d fun a => rpwF (timC p l) a p) r (ringV p d) 1)
theorem se23 : singEq 2 3 = true := by decide +kernel
theorem se24 : singEq 2 4 = true := by decide +kernel
theorem se33 : singEq 3 3 = true := by decide +kernel
theorem se25 : singEq 2 5 = true := by decide +kernel
theorem sin_same {p d : Nat} {low : List Int} (hF : IsField p d low) (h : singEq p d = true) : sinL p d low (ringV p d) = sinLR p d low (ringV p d) := by
  have h1 := List.all_eq_true.1 h _ hF.mem
  rw [hF.irrC, Bool.not_true, Bool.false_or, List.any_eq_true] at h1
  obtain ⟨r, _, h1⟩ := h1
  simp only [Bool.and_eq_true, beq_iff_eq] at h1
  obtain ⟨ha, hb, hc⟩ := h1
  rw [rrootF_eq] at hb
  have hr : rootN p d low = r := by unfold rootN; rw [mulM_of hF, ha]; rfl
  have hrr : rootR p d low = r := by unfold rootR; rw [timM_of hF, hb]
  unfold sinL sinLR
  congr 1
  refine List.filter_congr fun i hi => ?_
  have hi := List.mem_range.1 hi
  have h1 := sinF_get (mulC p (lowN low)) (trB p d fun a => powF (mulC p (lowN low)) 7 1 a p) r (ringV p d) 0 i hi
  have h2 := sinF_get (timC p (lowN low)) (trB p d fun a => rpwF (timC p (lowN low)) a p) r (ringV p d) 0 i hi
  rw [show pwS (mulC p (lowN low)) r 0 = 1 from rfl, Nat.zero_add] at h1
  rw [show pwS (timC p (lowN low)) r 0 = 1 from rfl, Nat.zero_add, ← hc, h1, Option.some.injEq] at h2
  unfold trB at h2
  rw [traF_eq, traF_eq] at h2
  simp only [powF_eq, rpwF_eq] at h2
  unfold sinB sinBR
  rw [traS_G hF, rtrS_G hF, hr, hrr, mulM_of hF, timM_of hF]
  exact h2
theorem sinL_ref {p d : Nat} {low : List Int} (hF : IsField p d low) (h3 : 3 ≤ d) (hv : ringV p d ≤ 60) : sinL p d low (ringV p d) = sinLR p d low (ringV p d) := by
  rcases sing_cases hF h3 hv with ⟨rfl, rfl⟩ | ⟨rfl, rfl⟩ | ⟨rfl, rfl⟩ | ⟨rfl, rfl⟩
  · exact sin_same hF se23
  · exact sin_same hF se24
  · exact sin_same hF se25
  · exact sin_same hF se33
end Go.Proofs.YtdbfpdhcaiiiaaaDoor

namespace Go.Proofs.YtdbfpdhcaiiiaaaDoor
open Go.RowKit

theorem pickL_set {n : Nat} (h1 : 1 ≤ n) (h2 : n ≤ 60) (q : Nat → Bool) : IsSet n (pickL q n) := by
  refine ⟨by omega, by omega, fun k hk => ?_, inc_of fun i j hij hj => ?_⟩
  · rw [ix_lt hk]
    obtain ⟨j, hj, _, e⟩ := mem_pickL.1 (List.getElem_mem hk)
    omega
  · rw [ix_lt hj, ix_lt (by omega : i < _)]
    exact List.pairwise_iff_getElem.1 (pickL_pair q n) i j _ hj hij
theorem map_get (q : Nat → Bool) {n x : Nat} (hx : x < n) : ((List.range n).map q).getD x false = q x := by
  rw [List.getD_eq_getElem?_getD]; simp [hx]
/-- Is what is picked of a level? -/
def lvQ (L : List Bool) (n l : Nat) : Bool := fce (maskL L) fun M => lvM M n l
theorem lvQ_of {q : Nat → Bool} {L : List Bool} {n l : Nat} (h2 : 2 ≤ n) (h60 : n ≤ 60) (hL : ∀ x, x < n → L.getD x false = q x) (h : lvQ L n l = true) : difE n (pickL q n) = 0 ∧ difL n (pickL q n) = l := by
  unfold lvQ at h
  rw [fce_eq] at h
  exact lv_of (pickL_set (by omega) h60 q) (fun x hx => by rw [pickL_mem hx, maskL_bit, hL x hx]) h h2
def palLv (n : Nat) : Bool := lvQ ((List.range n).map (sqB n)) n ((n - 3) / 4)
theorem palLv_all : ((List.range 61).all fun p => !palOk p || palLv p) = true := by decide +kernel
theorem palOk_mod {n : Nat} (h : palOk n = true) : n % 4 = 3 := by
  unfold palOk at h; simp at h; exact h.2
theorem pal_lv {n : Nat} (h : n ≤ 60) (hP : palOk n = true) : difE n (palI n) = 0 ∧ difL n (palI n) = ((n - 3) / 4 : Nat) ∧ (palI n).length = (n - 1) / 2 := by
  have h1 := List.all_eq_true.1 palLv_all n (List.mem_range.2 (by omega))
  rw [hP, Bool.not_true, Bool.false_or] at h1
  have hm := palOk_mod hP
  obtain ⟨ha, hb⟩ := lvQ_of (q := sqB n) (by omega) h (fun x hx => map_get _ hx) h1
  exact ⟨ha, hb, by rw [← pal_sort h hP, sortI_len, palTo_len]; omega⟩
end Go.Proofs.YtdbfpdhcaiiiaaaDoor

namespace Go.Proofs.YtdbfpdhcaiiiaaaDoor
open Go.RowKit

theorem sinL_pick (p d : Nat) (low : List Int) : ∀ n, sinL p d low n = pickL (sinB p d low) n
  | 0 => rfl
  | n + 1 => by
    cases e : sinB p d low n
    · rw [sinL_no e, pickL_no e, sinL_pick p d low n]
    · rw [sinL_yes e, pickL_yes e, sinL_pick p d low n]
theorem sinF_len (M : Nat → Nat → Nat) (T : Nat → Bool) (r : Nat) : ∀ n a, (sinF M T r n a).length = n
  | 0, _ => rfl
  | n + 1, a => by rw [sinF, fce_eq, List.length_cons, sinF_len M T r n]
/-- Singer's bits. -/
def sinBits (p d : Nat) (l : List Nat) (r : Nat) : List Bool := sinF (mulC p l) (trB p d fun a => powF (mulC p l) 7 1 a p) r (ringV p d) 1
theorem sinBits_eq {p d : Nat} {low : List Int} (hF : IsField p d low) {r : Nat} (hr : rootN p d low = r) : sinBits p d (lowN low) r = (List.range (ringV p d)).map (sinB p d low) := by
  refine List.ext_getElem? fun i => ?_
  by_cases hi : i < ringV p d
  · have h1 := sinF_get (mulC p (lowN low)) (trB p d fun a => powF (mulC p (lowN low)) 7 1 a p) r (ringV p d) 0 i hi
    rw [show pwS (mulC p (lowN low)) r 0 = 1 from rfl, Nat.zero_add] at h1
    unfold sinBits
    rw [h1, List.getElem?_map, List.getElem?_range hi]
    show some _ = some _
    congr 1
    unfold trB sinB
    rw [traF_eq, traS_G hF, hr, mulM_of hF]
    simp only [powF_eq]
  · rw [List.getElem?_eq_none (by unfold sinBits; rw [sinF_len]; omega), List.getElem?_eq_none (by simp; omega)]
def singLv (p d : Nat) : Bool := (lows p d).all fun l => !irrC p d l || (List.range (p ^ d)).any fun r =>
  rootS (mulC p l) (p ^ d) 62 1 == some r && (lvQ (sinBits p d l r) (ringV p d) (ringV p (d - 2)) && ((sinBits p d l r).filter id).length == ringV p (d - 1))
theorem sv23 : singLv 2 3 = true := by decide +kernel
theorem sv24 : singLv 2 4 = true := by decide +kernel
theorem sv33 : singLv 3 3 = true := by decide +kernel
theorem sv25 : singLv 2 5 = true := by decide +kernel
theorem sing_lv_of {p d : Nat} {low : List Int} (hF : IsField p d low) (hv : ringV p d ≤ 60) (h2 : 2 ≤ ringV p d) (h : singLv p d = true) :
    difE (ringV p d : Nat) (sinL p d low (ringV p d)) = 0 ∧ difL (ringV p d : Nat) (sinL p d low (ringV p d)) = (ringV p (d - 2) : Nat) ∧ (sinL p d low (ringV p d)).length = ringV p (d - 1) := by
  have h1 := List.all_eq_true.1 h _ hF.mem
  rw [hF.irrC, Bool.not_true, Bool.false_or, List.any_eq_true] at h1
  obtain ⟨r, _, h1⟩ := h1
  simp only [Bool.and_eq_true, beq_iff_eq] at h1
  obtain ⟨ha, hb, hc⟩ := h1
  have hr : rootN p d low = r := by unfold rootN; rw [mulM_of hF, ha]; rfl
  rw [sinBits_eq hF hr] at hb hc
  rw [sinL_pick]
  obtain ⟨q1, q2⟩ := lvQ_of (q := sinB p d low) h2 hv (fun x hx => map_get _ hx) hb
  refine ⟨q1, q2, ?_⟩
  rw [← hc, ← sinL_pick]
  unfold sinL
  rw [List.length_map, List.filter_map, List.length_map]
  rfl
theorem sing_lv {p d : Nat} {low : List Int} (hF : IsField p d low) (h3 : 3 ≤ d) (hv : ringV p d ≤ 60) :
    difE (ringV p d : Nat) (sinL p d low (ringV p d)) = 0 ∧ difL (ringV p d : Nat) (sinL p d low (ringV p d)) = (ringV p (d - 2) : Nat) ∧ (sinL p d low (ringV p d)).length = ringV p (d - 1) := by
  rcases sing_cases hF h3 hv with ⟨rfl, rfl⟩ | ⟨rfl, rfl⟩ | ⟨rfl, rfl⟩ | ⟨rfl, rfl⟩
  · exact sing_lv_of hF hv (by decide) sv23
  · exact sing_lv_of hF hv (by decide) sv24
  · exact sing_lv_of hF hv (by decide) sv25
  · exact sing_lv_of hF hv (by decide) sv33
end Go.Proofs.YtdbfpdhcaiiiaaaDoor

namespace Go.Proofs.YtdbfpdhcaiiiaaaDoor
open Go.RowKit

set_option maxHeartbeats 1000000 in
theorem primeD_any (n : Nat) (h1 : 1 ≤ n) (hn : n ≤ 60) (w : World) :
    Calls Tryd.prog 37 #[.int .i64 (n : Int)] w fun e w' => e = .returned (.bool (prB n)) ∧ w = w' := by
  have HN : Hid (1 ≤ n ∧ n ≤ 60) := ⟨h1, hn⟩
  go_enter Tryd.func37, Tryd.ntmps37
  go_wp2
  go_loop [3] (fun s => ∃ q : Nat, 2 ≤ q ∧ q ≤ 61 ∧ s = .int .i64 q ∧ ∀ d, 2 ≤ d → d < q → n % d ≠ 0) (fun s => 64 - (intOf s).toNat)
  case atStart => exact ⟨2, by omega, by omega, rfl, fun d h1 h2 => by omega⟩
  case round =>
    obtain ⟨q, hq1, hq2, rfl, hno⟩ := hrel
    have HNo := Lib.hid hno
    clear hno
    obtain ⟨hv, hqb⟩ := sqr_val (q := q) (by omega)
    have hq0 : ¬ q = 0 := by omega
    have H1 : Hid (n < q * q → prB n = decide (n > 1)) := fun h => by
      show _ = _
      by_cases h2 : 2 ≤ n
      · rw [prB_yes ⟨h2, by have := HN.out; omega⟩ h HNo.out, decide_eq_true (by omega)]
      · rw [prB_far (by omega), decide_eq_false (by omega)]
    have H2 : Hid (q * q ≤ n → n % q = 0 → prB n = false) := fun h h' => prB_hit hq1 h h'
    have H3 : Hid (q * q ≤ n → q ≤ 60) := fun h => by
      have := HN.out
      have := Nat.mul_le_mul (Nat.le_refl q) hq1
      omega
    obtain ⟨P, hP⟩ : ∃ P, P = q * q := ⟨_, rfl⟩
    rw [← hP] at hv hqb H1 H2 H3
    clear hP
    by_cases hle : P ≤ n
    · have h316 := H3.out hle
      by_cases hd : n % q = 0
      · have HF := Lib.hid (H2.out hle hd)
        have e1 : (((n : Nat) : Int) % ((q : Nat) : Int) == 0) = true := by simp; omega
        clear hd
        go_wp2
        go_ret
        exact ⟨ret_bool HF.out.symm, rfl⟩
      · have e1 : (((n : Nat) : Int) % ((q : Nat) : Int) == 0) = false := by simp; omega
        have HD := Lib.hid hd
        clear hd
        go_wp2
        go_round
        case rel => exact ⟨q + 1, by omega, by omega, by go_num, fun d h1 h2 => by
          by_cases e : d = q
          · subst e; exact HD.out
          · exact HNo.out d h1 (by omega)⟩
        case measure => simp [intOf]; omega
    · have HR := Lib.hid (H1.out (by omega))
      by_cases hg : 1 < n
      · have e1 : decide ((n : Int) > 1) = true := by simp; omega
        have HR2 : Hid (prB n = true) := by show _ = _; rw [HR.out]; exact decide_eq_true hg
        go_wp2
        go_ret
        exact ⟨ret_bool HR2.out.symm, rfl⟩
      · have e1 : decide ((n : Int) > 1) = false := by simp; omega
        have HR2 : Hid (prB n = false) := by show _ = _; rw [HR.out]; exact decide_eq_false (by omega)
        go_wp2
        go_ret
        exact ⟨ret_bool HR2.out.symm, rfl⟩
end Go.Proofs.YtdbfpdhcaiiiaaaDoor
