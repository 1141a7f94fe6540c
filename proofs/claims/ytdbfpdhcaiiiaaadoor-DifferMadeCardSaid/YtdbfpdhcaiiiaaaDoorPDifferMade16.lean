/-
  Contract: field.digits. No condition.
-/
import Derived.Test.YtdbfpdhcaiiiaaaDoorPDifferMade11
import Derived.Test.YtdbfpdhcaiiiaaaDoorRows
namespace Go.Proofs.YtdbfpdhcaiiiaaaDoor
open Go.RowKit

abbrev polyZ : Array Value := #[.int .i64 0, .int .i64 0, .int .i64 0, .int .i64 0, .int .i64 0, .int .i64 0, .int .i64 0]
theorem polyZeroA : polyZ = Array.replicate 7 (.int .i64 0) := by rfl
theorem poly_new (w : World) : PolyAt (w.alloc (.cells polyZ 89)) w.heap.size (fun _ => 0) := Arr.newOf w 7 _ _ _ polyZeroA
theorem PolyAt.old {w : World} {b j : Nat} {f : Nat → Nat} (h : PolyAt w b f) (hj : j < 7) : w.cell? ⟨b, j, none⟩ = some (.int .i64 ((f j : Nat) : Int)) ∧ w.frozen? ⟨b, j, none⟩ = false :=
  ⟨Arr.cell h hj, Arr.free h hj⟩
theorem PolyAt.set {w : World} {b j : Nat} {f : Nat → Nat} (h : PolyAt w b f) (hj : j < 7) (x : Nat) : PolyAt (w.setCell ⟨b, j, none⟩ (.int .i64 (x : Int))) b (fun i => if i = j then x else f i) := by
  refine (Nums.set h hj _).congr fun i _ => ?_
  by_cases e : i = j <;> simp [e]
theorem PolyAt.congr {w : World} {b : Nat} {f g : Nat → Nat} (h : PolyAt w b f) (e : ∀ j, j < 7 → f j = g j) : PolyAt w b g :=
  Arr.congr h fun j hj => by show Value.int .i64 ((f j : Nat) : Int) = .int .i64 ((g j : Nat) : Int); rw [e j hj]

/-- What digits holds behind i digits. -/
structure DigRel (w wr : World) (p n i : Nat) : Prop where
  bel : Below w.heap.size w wr
  res : PolyAt wr w.heap.size (fun _ => 0)
  out : PolyAt wr (w.heap.size + 1) (fun j => if j < i then dF p n j else 0)
theorem dig_start (w : World) (p n : Nat) : DigRel w ((w.alloc (.cells polyZ 89)).alloc (.cells polyZ 89)) p n 0 := by
  refine ⟨belowTrans (below_box _ _) (below_box _ _), Arr.alloc (poly_new w) _, ?_⟩
  have := poly_new (w.alloc (.cells polyZ 89))
  rw [World.size_alloc] at this
  exact PolyAt.congr this fun j _ => by rw [if_neg (by omega)]
theorem DigRel.step {w wr : World} {p n i : Nat} (h : DigRel w wr p n i) (hi : i < 7) : DigRel w (wr.setCell ⟨w.heap.size + 1, i, none⟩ (.int .i64 ((n / p ^ i % p : Nat) : Int))).drew p n (i + 1) := by
  refine ⟨(h.bel.setCell (Nat.le_succ _) _).drew, (Arr.setOther h.res (by simp) _).drew, Arr.drew ?_⟩
  refine PolyAt.congr (h.out.set hi _) fun j _ => ?_
  by_cases e : j = i
  · subst e; rw [if_pos rfl, if_pos (by omega)]; rfl
  · rw [if_neg e]
    by_cases e2 : j < i
    · rw [if_pos e2, if_pos (by omega)]
    · rw [if_neg e2, if_neg (by omega)]
theorem dig_small {p n i : Nat} (hp : 2 ≤ p) (hn : n < 64) (h : 0 < n / p ^ i) : i ≤ 5 := by
  refine Classical.byContradiction fun hc => ?_
  have h1 : 2 ^ 6 ≤ 2 ^ i := Nat.pow_le_pow_right (by omega) (by omega)
  have h2 : 2 ^ i ≤ p ^ i := Nat.pow_le_pow_left hp i
  rw [Nat.div_eq_of_lt (by omega)] at h
  omega
theorem dig_done {p n i : Nat} (h : n / p ^ i = 0) (j : Nat) : (if j < i then dF p n j else 0) = dF p n j := by
  by_cases e : j < i
  · rw [if_pos e]
  · rw [if_neg e, dF_zero h (by omega)]

theorem lt_meas {a : Int} {r m : Nat} (h : a = r) (hl : r < m) : (intOf (.int .i64 a)).toNat < (intOf (Value.int .i64 (m : Int))).toNat := by
  subst h; simp [intOf]; omega
theorem quo_val {m p : Nat} (h : m < 64) : wrap64 ((m : Int) / (p : Int)) = ((m / p : Nat) : Int) := by
  have := Nat.div_le_self m p
  rw [← Int.natCast_ediv]
  generalize m / p = q at *
  exact IntWalk.wrap64_in _ (by omega)
set_option maxRecDepth 100000 in
set_option maxHeartbeats 1000000 in
theorem digits_any (p n : Nat) (w : World) (hp : 2 ≤ p) (hp2 : p ≤ 64) (hn : n < 64) :
    Calls Tryd.prog 68 #[.int .i64 p, .int .i64 n] w fun e w' => e = .returned (fV (dF p n)) ∧ Below w.heap.size w w' := by
  have hp0 : ¬ p = 0 := by omega
  go_enter Tryd.func68, Tryd.ntmps68
  go_wp2_with fail
  go_loopw [1, 6] (fun s t wr => ∃ i m : Nat, t = .int .i64 i ∧ s = .int .i64 m ∧ m = n / p ^ i ∧ i ≤ 6 ∧ DigRel w wr p n i) (fun s _ _ => (intOf s).toNat)
  case atStart => exact ⟨0, n, rfl, rfl, by simp, by omega, dig_start w p n⟩
  case round =>
    obtain ⟨i, m, rfl, rfl, hm, hi6, hR⟩ := hrel
    have HM := Lib.hid hm
    have HR := Lib.hid hR
    have hm64 : m < 64 := by rw [hm]; have := Nat.div_le_self n (p ^ i); omega
    clear hm hR
    by_cases hlt : 0 < m
    · have hi5 : i ≤ 5 := dig_small hp hn (by rw [← HM.out]; exact hlt)
      obtain ⟨c1, c2⟩ := HR.out.out.old (show i < 7 by omega)
      have hi7 : (i : Int) < 7 := by omega
      have HS := Lib.hid (HR.out.step (show i < 7 by omega))
      rw [← HM.out] at HS
      have HN : Hid (m / p = n / p ^ (i + 1)) := by show _ = _; rw [HM.out, Nat.pow_succ, Nat.div_div_eq_div_mul]
      have hlt2 : m / p < m := Nat.div_lt_self hlt (by omega)
      generalize (if i < i then dF p n i else 0) = z at *
      have hw := quo_val (p := p) hm64
      obtain ⟨r, hr⟩ : ∃ r, r = m / p := ⟨_, rfl⟩
      rw [← hr] at hw HN hlt2
      clear hr
      have HW := Lib.hid hw
      have hv := congrArg (Value.int .i64) hw
      clear hw
      go_wp2_with fail
      go_region
      all_goals
        go_wp2_with fail
        go_roundw
        case rel => exact ⟨i + 1, r, by go_num, by first | exact hv | go_num, HN.out, by omega, HS.out⟩
        case measure => exact lt_meas HW.out hlt2
    · have hout : PolyAt wr (w.heap.size + 1) (dF p n) := PolyAt.congr HR.out.out fun j _ => dig_done (by rw [← HM.out]; omega) j
      have HO := Lib.hid hout
      obtain ⟨V, q1, q2, q3, q4, q5, q6⟩ := Nums.stores (P := Tryd.prog) HR.out.res (fun j => ((dF p n j : Nat) : Int))
      have Q2 := Lib.hid q2; have Q6 := Lib.hid q6
      clear q2 q3 q4 q5 q6 hout
      go_wp2_with (with_reducible refine wpList_load_tab rfl 89 _ rfl _ rfl HO.out Tryd.underlying89 rfl (by kernel_rfl) ?_)
      refine bodyPost_ret (results_arr1 (p := 4) rfl Q2.out Tryd.underlying89 rfl (by kernel_rfl) rfl) rfl ⟨rfl, HR.out.bel.trans (Q6.out _ (Nat.le_refl _))⟩
end Go.Proofs.YtdbfpdhcaiiiaaaDoor
