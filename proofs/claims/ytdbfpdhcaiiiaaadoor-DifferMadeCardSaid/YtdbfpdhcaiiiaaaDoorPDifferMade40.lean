/-
  Plain laws: what is left out of a set of a level, and what is moved or multiplied, is of a level. No program in sight. No condition.
  Contract: the reference's Shifted. No condition.
-/
import Derived.Test.YtdbfpdhcaiiiaaaDoorPDifferMade9
import Derived.Test.YtdbfpdhcaiiiaaaDoorPDifferMade10
import Derived.Test.YtdbfpdhcaiiiaaaDoorPDifferMade39
namespace Go.Proofs.YtdbfpdhcaiiiaaaDoor
open Go.RowKit

/-- A sum over all, in another order. -/
theorem perm_sum {v : Nat} {π : Nat → Nat} (hr : ∀ x, x < v → π x < v) (hi : ∀ x y, x < v → y < v → π x = π y → x = y) (F : Nat → Int) :
    sumL (List.range v) (fun x => F (π x)) = sumL (List.range v) F := by
  have h1 : ∀ y, sumL (List.range v) (fun x => ind (y == π x)) ≤ 1 := by
    intro y
    by_cases e : ∃ x, x < v ∧ π x = y
    · obtain ⟨x0, hx0, e⟩ := e
      have : ∀ x, x ∈ List.range v → ind (y == π x) = ind (x == x0) * 1 := by
        intro x hx
        rw [List.mem_range] at hx
        rw [Int.mul_one]
        refine ind_iff ?_
        rw [beq_iff_eq, beq_iff_eq]
        constructor
        · intro e2; exact hi x x0 hx hx0 (by omega)
        · rintro rfl; exact e.symm
      rw [sumL_congr this, sum_one (fun _ => 1) hx0]; exact Int.le_refl _
    · have : ∀ x, x ∈ List.range v → ind (y == π x) = 0 := by
        intro x hx
        rw [List.mem_range] at hx
        have : (y == π x) = false := by simp; intro e2; exact e ⟨x, hx, e2.symm⟩
        rw [this]; rfl
      rw [sumL_congr this, sumL_zero]; decide
  have h2 : sumL (List.range v) (fun y => sumL (List.range v) (fun x => ind (y == π x))) = v := by
    rw [sumL_swap]
    have : ∀ x, x ∈ List.range v → sumL (List.range v) (fun y => ind (y == π x)) = 1 := by
      intro x hx
      rw [List.mem_range] at hx
      have := sum_one (fun _ => 1) (hr x hx)
      rw [← this]
      exact sumL_congr fun y _ => (Int.mul_one _).symm
    rw [sumL_congr this, sumL_const, List.length_range]; omega
  have h3 : ∀ y, y ∈ List.range v → sumL (List.range v) (fun x => ind (y == π x)) = 1 := by
    have e0 : sumL (List.range v) (fun y => 1 - sumL (List.range v) (fun x => ind (y == π x))) = 0 := by
      rw [sumL_sub, h2, sumL_const, List.length_range]; omega
    intro y hy
    have := sumL_null (fun y _ => by have := h1 y; omega) e0 y hy
    omega
  have h4 : ∀ x, x ∈ List.range v → F (π x) = sumL (List.range v) (fun y => ind (y == π x) * F y) := by
    intro x hx
    rw [List.mem_range] at hx
    exact (sum_one F (hr x hx)).symm
  rw [sumL_congr h4, sumL_swap]
  refine sumL_congr fun y hy => ?_
  rw [sumL_mulr, h3 y hy, Int.one_mul]
/-- What is reached by all, reaches all. -/
theorem perm_onto {v : Nat} {π : Nat → Nat} (hr : ∀ x, x < v → π x < v) (hi : ∀ x y, x < v → y < v → π x = π y → x = y) {y : Nat} (hy : y < v) : ∃ x, x < v ∧ π x = y := by
  refine Classical.byContradiction fun hno => ?_
  have h := perm_sum hr hi (fun z => ind (z == y) * 1)
  rw [sum_one (fun _ => 1) hy] at h
  have : sumL (List.range v) (fun x => ind (π x == y) * 1) = 0 := by
    rw [← sumL_zero (List.range v)]
    refine sumL_congr fun x hx => ?_
    have : (π x == y) = false := by simp; intro e; exact hno ⟨x, List.mem_range.1 hx, e⟩
    rw [this]; rfl
  rw [this] at h; cases h
theorem dvd_mod {a b v : Nat} (h : a % v = b % v) (_ : b ≤ a) : v ∣ a - b := Nat.dvd_of_mod_eq_zero (Nat.sub_mod_eq_zero_of_mod_eq h)
theorem shift_inj {v n : Nat} : ∀ x y, x < v → y < v → (x + n) % v = (y + n) % v → x = y := by
  intro x y hx hy h
  have key : ∀ a b, a < v → b ≤ a → (a + n) % v = (b + n) % v → a = b := by
    intro a b ha hba h
    have h2 := dvd_mod h (by omega)
    rw [show a + n - (b + n) = a - b by omega] at h2
    have := Nat.eq_zero_of_dvd_of_lt h2 (by omega)
    omega
  rcases Nat.le_total y x with h4 | h4
  · exact key x y hx h4 h
  · exact (key y x hy h4 h.symm).symm
theorem ch_sum {v : Nat} {xs : List Int} (h : IsSet v xs) : sumL (List.range v) (fun x => ch xs x) = xs.length := by
  have := set_sum h (fun _ => 1)
  rw [sumL_const, Int.one_mul] at this
  rw [this]
  exact sumL_congr fun y _ => (Int.mul_one _).symm
theorem ch_shift {v : Nat} {xs : List Int} (h : IsSet v xs) (n : Nat) : sumL (List.range v) (fun x => ch xs ((x + n) % v)) = xs.length := by
  rw [perm_sum (π := fun x => (x + n) % v) (fun x hx => Nat.mod_lt _ (by omega)) shift_inj (ch xs), ch_sum h]
/-- What is left out. -/
def restL (v : Nat) (xs : List Int) : List Int := pickL (fun x => !mem xs (x : Int)) v
theorem pick_set {v : Nat} (p : Nat → Bool) (h1 : 1 ≤ v) (h2 : v ≤ 60) : IsSet v (pickL p v) := by
  have hp := pickL_pair p v
  refine ⟨by omega, by omega, fun k hk => ?_, inc_of fun i j hij hj => ?_⟩
  · obtain ⟨j, a, _, e⟩ := mem_pickL.1 (ix_mem hk); omega
  · rw [List.pairwise_iff_getElem] at hp
    rw [ix_lt (by omega), ix_lt hj]; exact hp i j (by omega) hj hij
theorem DLev.rest {v l : Nat} {xs : List Int} (h : DLev v xs l) : ∃ m : Nat, DLev v (restL v xs) m ∧ (1 < v → (m : Int) = v - 2 * xs.length + l) := by
  have hlo := h.set.lo; have hhi := h.set.hi
  have hc : ∀ x, x < v → ch (restL v xs) x = 1 - ch xs x := fun x hx => by
    unfold ch restL
    rw [pickL_mem hx, ind_not]
  have key : ∀ n, 1 ≤ n → n < v → dif v (restL v xs) n = (v : Int) - 2 * xs.length + l := by
    intro n h1 h2
    unfold dif
    have e : ∀ x, x ∈ List.range v → ch (restL v xs) x * ch (restL v xs) ((x + n) % v) = 1 - ch xs x - ch xs ((x + n) % v) + ch xs x * ch xs ((x + n) % v) := by
      intro x hx
      rw [List.mem_range] at hx
      rw [hc x hx, hc _ (Nat.mod_lt _ (by omega))]
      generalize ch xs x = a; generalize ch xs ((x + n) % v) = b
      rw [Int.sub_mul, Int.one_mul, Int.mul_sub, Int.mul_one]; omega
    rw [sumL_congr e, sumL_add, sumL_sub, sumL_sub, ch_sum h.set, ch_shift h.set, sumL_const, List.length_range]
    have := h.all n h1 h2
    unfold dif at this
    rw [this]; omega
  by_cases hv : v = 1
  · subst hv
    exact ⟨0, ⟨pick_set _ (by omega) (by omega), fun n h1 h2 => by omega, fun _ => rfl⟩, fun h => by omega⟩
  · have hpos : 0 ≤ (v : Int) - 2 * xs.length + l := by
      rw [← key 1 (by omega) (by omega)]
      exact sumL_nonneg fun x _ => Int.mul_nonneg (ind_nonneg _) (ind_nonneg _)
    obtain ⟨m, hm⟩ := Int.eq_ofNat_of_zero_le hpos
    exact ⟨m, ⟨pick_set _ (by omega) (by omega), fun n h1 h2 => by rw [key n h1 h2, hm], fun e => absurd e hv⟩, fun _ => hm.symm⟩
/-- Moved and multiplied. -/
def movF (v g s x : Nat) : Nat := (x * g + s) % v
def movL (v g s : Nat) (xs : List Int) : List Int := sortI (xs.map fun x => (x * g + s) % (v : Int))
theorem mov_inj {v g s : Nat} (hg : Nat.gcd g v = 1) : ∀ x y, x < v → y < v → movF v g s x = movF v g s y → x = y := by
  intro x y hx hy h
  unfold movF at h
  have key : ∀ a b, a < v → b ≤ a → (a * g + s) % v = (b * g + s) % v → a = b := by
    intro a b ha hba h
    have hle : b * g ≤ a * g := Nat.mul_le_mul_right g hba
    have h2 := dvd_mod h (by omega)
    rw [show a * g + s - (b * g + s) = a * g - b * g by omega, ← Nat.sub_mul] at h2
    have h3 : v ∣ a - b := Nat.Coprime.dvd_of_dvd_mul_right (by rw [Nat.Coprime, Nat.gcd_comm]; exact hg) h2
    have := Nat.eq_zero_of_dvd_of_lt h3 (by omega)
    omega
  rcases Nat.le_total y x with h4 | h4
  · exact key x y hx h4 h
  · exact (key y x hy h4 h.symm).symm
theorem mov_int {v g s x : Nat} : (((x : Int) * g + s) % (v : Int)) = ((movF v g s x : Nat) : Int) := by
  unfold movF; rw [Int.natCast_emod, Int.natCast_add, Int.natCast_mul]
theorem mov_mem {v g s : Nat} {xs : List Int} (h : IsSet v xs) (hg : Nat.gcd g v = 1) {x : Nat} (hx : x < v) : mem (movL v g s xs) (movF v g s x : Int) = mem xs (x : Int) := by
  rw [Bool.eq_iff_iff, mem_iff, mem_iff]
  unfold movL
  rw [sortI_mem, List.mem_map]
  constructor
  · rintro ⟨a, ha, e⟩
    obtain ⟨i, hi, rfl⟩ := ix_of_mem ha
    have hr := h.rng i hi
    obtain ⟨b, hb⟩ := Int.eq_ofNat_of_zero_le hr.1
    rw [hb] at e ha hr
    rw [mov_int] at e
    have := mov_inj (s := s) hg b x (by omega) hx (by omega)
    subst this; exact ha
  · intro hm; exact ⟨x, hm, mov_int⟩
theorem mov_nodup {v g s : Nat} {xs : List Int} (h : IsSet v xs) (hg : Nat.gcd g v = 1) : (xs.map fun x => (x * g + s) % (v : Int)).Nodup := by
  rw [List.Nodup, List.pairwise_map]
  refine List.Pairwise.imp_of_mem ?_ (inc_pair h.inc)
  intro a b ha hb hlt e
  obtain ⟨i, hi, rfl⟩ := ix_of_mem ha
  obtain ⟨j, hj, rfl⟩ := ix_of_mem hb
  have ri := h.rng i hi
  have rj := h.rng j hj
  obtain ⟨a, ha⟩ := Int.eq_ofNat_of_zero_le ri.1
  obtain ⟨b, hb⟩ := Int.eq_ofNat_of_zero_le rj.1
  rw [ha, hb, mov_int, mov_int] at e
  rw [ha] at ri; rw [hb] at rj
  have := mov_inj (s := s) hg a b (by omega) (by omega) (by omega)
  omega
theorem mov_pick {v g s : Nat} {xs : List Int} (h : IsSet v xs) (hg : Nat.gcd g v = 1) : movL v g s xs = pickL (fun y => mem (movL v g s xs) (y : Int)) v := by
  have hlo := h.lo
  refine rise_pick (sortI_lt (mov_nodup h hg)) (fun x hx => ?_) fun y _ => mem_iff _ _
  unfold movL at hx
  rw [sortI_mem, List.mem_map] at hx
  obtain ⟨a, _, rfl⟩ := hx
  exact ⟨Int.emod_nonneg _ (by omega), Int.emod_lt_of_pos _ (by omega)⟩
theorem mov_set {v g s : Nat} {xs : List Int} (h : IsSet v xs) (hg : Nat.gcd g v = 1) : IsSet v (movL v g s xs) := by
  rw [mov_pick h hg]; exact pick_set _ (by have := h.lo; omega) (by have := h.hi; omega)
theorem mov_len (v g s : Nat) (xs : List Int) : (movL v g s xs).length = xs.length := by unfold movL; rw [sortI_len, List.length_map]
theorem DLev.mov {v l g s : Nat} {xs : List Int} (h : DLev v xs l) (hg : Nat.gcd g v = 1) : DLev v (movL v g s xs) l := by
  refine ⟨mov_set h.set hg, fun n h1 h2 => ?_, h.one⟩
  have hv : 0 < v := by omega
  have hr : ∀ s x, x < v → movF v g s x < v := fun s x _ => Nat.mod_lt _ hv
  -- what is multiplied to n
  obtain ⟨m, hm, em⟩ := perm_onto (π := movF v g 0) (hr 0) (mov_inj hg) h2
  have hm1 : 1 ≤ m := by
    refine Classical.byContradiction fun hc => ?_
    obtain rfl : m = 0 := by omega
    unfold movF at em
    rw [Nat.zero_mul, Nat.zero_add, Nat.zero_mod] at em
    omega
  rw [← h.all m hm1 hm]
  unfold dif
  rw [← perm_sum (hr s) (mov_inj (s := s) hg) (fun y => ch (movL v g s xs) y * ch (movL v g s xs) ((y + n) % v))]
  refine sumL_congr fun x hx => ?_
  rw [List.mem_range] at hx
  have e1 : ch (movL v g s xs) (movF v g s x) = ch xs x := by unfold ch; rw [mov_mem h.set hg hx]
  have hxm : (x + m) % v < v := Nat.mod_lt _ hv
  have e2 : (movF v g s x + n) % v = movF v g s ((x + m) % v) := by
    rw [← em]
    unfold movF
    rw [Nat.add_zero, ← Nat.add_mod]
    have : ((x + m) % v * g + s) % v = ((x + m) * g + s) % v := by
      rw [Nat.add_mod, Nat.mod_mul_mod, ← Nat.add_mod]
    rw [this]
    congr 1
    rw [Nat.add_mul]; omega
  have e3 : ch (movL v g s xs) ((movF v g s x + n) % v) = ch xs ((x + m) % v) := by
    rw [e2]; unfold ch; rw [mov_mem h.set hg hxm]
  rw [e1, e3]
end Go.Proofs.YtdbfpdhcaiiiaaaDoor

namespace Go.Proofs.YtdbfpdhcaiiiaaaDoor
open Go.RowKit

/-- The numbers moved, not yet sorted. -/
def mvTo (v g s : Nat) (xs : List Int) (k : Nat) : List Int := (xs.take k).map fun x => (x * g + s) % (v : Int)
theorem mvTo_succ {v g s : Nat} {xs : List Int} {k : Nat} (h : k < xs.length) : mvTo v g s xs (k + 1) = mvTo v g s xs k ++ [(ix xs k * g + s) % (v : Int)] := by
  unfold mvTo; rw [take_succ_ix h, List.map_append]; rfl
theorem mvTo_len {v g s : Nat} {xs : List Int} {k : Nat} (h : k ≤ xs.length) : (mvTo v g s xs k).length = k := by unfold mvTo; rw [List.length_map, List.length_take]; omega
theorem mvTo_all (v g s : Nat) (xs : List Int) : sortI (mvTo v g s xs xs.length) = movL v g s xs := by unfold mvTo movL; rw [List.take_length]
theorem mv_val {n t s x : Nat} (hx : x < 60) (ht : t ≤ 200) :
    Value.int .i64 (wrap64 ((x : Int) * (t : Int))) = Value.int .i64 ((x * t : Nat) : Int) ∧ x * t ≤ 12000 ∧ (((x * t : Nat) : Int) + s) % (n : Int) = (((x : Int) * t + s) % (n : Int)) := by
  have h : x * t ≤ 60 * 200 := Nat.mul_le_mul (by omega) ht
  refine ⟨?_, by omega, by rw [Int.natCast_mul]⟩
  rw [← Int.natCast_mul, IntWalk.wrap64_in _ (by omega)]

set_option maxRecDepth 100000 in
set_option maxHeartbeats 2000000 in
theorem shifted_any (n t s : Nat) (v : Value) (xs : List Int) (w : World) (h : IntsAt w v xs) (hS : IsSet n xs) (ht : t ≤ 200) (hs : s ≤ 200) :
    Calls Tryd.prog 43 #[.int .i64 (n : Nat), v, .int .i64 (t : Nat), .int .i64 (s : Nat)] w fun e w' => ∃ u, e = .returned u ∧ Own w' w.heap.size 3 u (movL n t s xs) ∧ Below w.heap.size w w' := by
  have HS := Lib.hid hS
  have hn1 := hS.lo; have hn2 := hS.hi
  have hl : (xs.length : Int) ≤ n := inc_len hS.rng hS.inc (by omega)
  obtain ⟨a, c, rfl, h1, h2, _, h3⟩ := h
  have HX := Lib.hid h3; clear h3 hS
  go_enter Tryd.func43, Tryd.ntmps43
  go_wp2_with fail
  go_loopw [10, 9] (fun q l wr => ∃ (i : Nat) (z : Value), i ≤ xs.length ∧ q = .int .i64 i ∧ l = z ∧ Own wr w.heap.size 3 z (mvTo n t s xs i) ∧ Below w.heap.size w wr) (fun q _ _ => xs.length - (intOf q).toNat)
  case atStart => exact ⟨0, _, by omega, rfl, rfl, own_nil _ _ _, Below.refl _ _⟩
  case round =>
    obtain ⟨i, z, hi, rfl, hz, hO, hB⟩ := hrel
    subst hz
    have HO := Lib.hid hO; have HB := Lib.hid hB
    have hsz := hB.size
    have hml := mvTo_len (v := n) (g := t) (s := s) hi
    clear hO hB
    by_cases hlt : i < xs.length
    · obtain ⟨b, o, rfl, hb, hc⟩ := HX.out i hlt
      have hcell := hc i hlt
      rw [← (bcell HB.out).1 _ _ hb] at hcell
      clear hc
      have hr := HS.out.rng i hlt
      obtain ⟨x, hx⟩ := Int.eq_ofNat_of_zero_le hr.1
      have HM : Hid (mvTo n t s xs (i + 1) = mvTo n t s xs i ++ [((x : Int) * t + s) % (n : Int)]) := by show _ = _; rw [mvTo_succ hlt, hx]
      rw [hx] at hcell hr
      obtain ⟨hv1, hv2, hv3⟩ := mv_val (n := n) (t := t) (s := s) (x := x) (by omega) ht
      rw [← hv3] at HM
      have hm0 : ¬ n = 0 := by omega
      clear hx hv3
      obtain ⟨P, hP⟩ : ∃ P, P = x * t := ⟨_, rfl⟩
      rw [← hP] at hv1 hv2 HM
      have hw : IntKind.i64.wrap ((((P : Nat) : Int) + s) % (n : Int)) = (((P : Nat) : Int) + s) % (n : Int) := by
        have q1 : 0 ≤ (((P : Nat) : Int) + s) % (n : Int) := Int.emod_nonneg _ (by omega)
        have q2 : (((P : Nat) : Int) + s) % (n : Int) < n := Int.emod_lt_of_pos _ (by omega)
        exact IntWalk.i64_in _ (by omega)
      have HWr := Lib.hid hw
      clear hP hw
      go_wp2_with (at_builtin; refine app_own rfl _ _ rfl rfl (HO.out.alloc _) _ _ rfl (by rw [World.cell?_alloc_new]; rfl) (by omega) (by rw [World.size_alloc]; omega) ?_; intro v' w1 hown1 hgrow)
      have HO1 := Lib.hid hown1
      have HB1 := Lib.hid ((HB.out.alloc hsz _).grown hgrow (by rw [World.size_alloc]; omega) (fun k hk => (HO.out.block k hk).1))
      clear hown1 hgrow
      go_roundw
      case rel => exact ⟨i + 1, _, by omega, by go_num, rfl, by rw [HM.out]; exact HO1.out, HB1.out⟩
      case measure => simp [intOf]; omega
    · obtain rfl : i = xs.length := by omega
      have HSo := Lib.hid (sorted_any _ _ _ (HO.out.intsAt (by omega)) (by omega))
      rw [mvTo_all] at HSo
      obtain ⟨za, zl, zc, rfl⟩ := HO.out.shape
      go_wp2_with fail
      refine (HSo.out).mono ?_
      rintro e w2 ⟨u, rfl, hown, hb⟩
      have HO2 := Lib.hid (hown.base hsz)
      have HB2 := Lib.hid (belowTrans HB.out hb)
      obtain ⟨ua, ul, uc, rfl⟩ := hown.shape
      clear hown hb
      go_wp2_with fail
      go_ret
      exact ⟨_, rfl, HO2.out, HB2.out⟩
end Go.Proofs.YtdbfpdhcaiiiaaaDoor
