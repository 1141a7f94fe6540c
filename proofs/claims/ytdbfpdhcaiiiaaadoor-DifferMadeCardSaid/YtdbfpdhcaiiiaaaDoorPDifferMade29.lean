/-
  Contract: the method add of a field's room. No condition. (The statement that makes two polynomials: every order, printed by gentwo.py.)
-/
import Derived.Test.YtdbfpdhcaiiiaaaDoorPDifferMade22
namespace Go.Proofs.YtdbfpdhcaiiiaaaDoor
open Go.RowKit

set_option maxRecDepth 100000 in
set_option maxHeartbeats 4000000 in
theorem add_any (p d q a b : Nat) (v : Value) (w : World) (hp : 2 ≤ p) (hp2 : p ≤ 64) (hd1 : 1 ≤ d) (hd : d ≤ 6) (hq : p ^ d ≤ 64) (ha : a < 64) (hb : b < 64) (hv : ∃ a l c, v = .slice a l c) :
    Calls Tryd.prog 50 #[roomV p d v q, .int .i64 a, .int .i64 b] w fun e w' => e = .returned (.int .i64 (addV p d a b : Nat)) ∧ Below w.heap.size w w' := by
  obtain ⟨sa, sl, sc, rfl⟩ := hv
  have HSI := Lib.hid (SI.begin w p d q (.slice sa sl sc) 72)
  have HD1 := Lib.hid (fun W => digits_any p a W hp hp2 ha)
  have HD2 := Lib.hid (fun W => digits_any p b W hp hp2 hb)
  obtain ⟨W, hW⟩ : ∃ W, W = (w.alloc (.cells #[.int .i64 (p : Int), .int .i64 (d : Int), .slice sa sl sc, .int .i64 (q : Int)] 72)).drew := ⟨_, rfl⟩
  rw [← hW] at HSI
  unfold roomV
  unfold fV at HD1 HD2
  go_enter Tryd.func50, Tryd.ntmps50
  go_upto_region 1 with fail
  go_cut [7, 8] (fun s7 s8 wx => ∃ b7 b8 : Nat, s7 = .pointer (some ⟨b7, 0, none⟩) ∧ s8 = .pointer (some ⟨b8, 0, none⟩) ∧ TwoRel w wx p d q (.slice sa sl sc) b7 b8 (dF p a) (dF p b))
  case first =>
    refine wp_region_noPanic ?_
    refine wp_region_held_drew (S := fun w' => w'.cell? ⟨w.heap.size, 0, none⟩ = some (.int .i64 (p : Int))) (by kernel_rfl) (by rw [← hW]; exact HSI.out.cell) (fun hHeld => ?_)
    rw [← hW]
    clear hHeld hW
    have hHeld := HSI.out.cell
    refine wpAnyH_take (i := 0) (oi := { dst := some 10, op := Op.fieldAddr 72 (Operand.tmp 3) 0, type := 0, pos := "field.go:131", after := #[], guard := none }) (v := ?_) rfl (by kernel_rfl) (by kernel_rfl) (by kernel_rfl) (fun _ _ _ h => h) (Or.inl ⟨by rfl, ?_⟩) (by assumption) ?_
    rotate_left
    · intro w hSw
      (try dsimp only at hSw)
      go_simp
      with_reducible rfl
    try simp only [Act.put, List.setIfInBounds_toArray, List.set_cons_zero, List.set_cons_succ]
    refine wpAnyH_take (i := 1) (oi := { dst := some 11, op := Op.fieldAddr 24 (Operand.tmp 10) 0, type := 0, pos := "field.go:131", after := #[{ on := 0, ground := Ground.data }], guard := none }) (v := ?_) rfl (by kernel_rfl) (by kernel_rfl) (by kernel_rfl) (fun _ _ _ h => h) (Or.inl ⟨by rfl, ?_⟩) (by assumption) ?_
    rotate_left
    · intro w hSw
      (try dsimp only at hSw)
      go_simp
      with_reducible rfl
    try simp only [Act.put, List.setIfInBounds_toArray, List.set_cons_zero, List.set_cons_succ]
    refine wpAnyH_take (i := 2) (oi := { dst := some 12, op := Op.load 3 (Operand.tmp 11), type := 3, pos := "field.go:131", after := #[{ on := 1, ground := Ground.data }], guard := none }) (v := ?_) rfl (by kernel_rfl) (by kernel_rfl) (by kernel_rfl) (fun _ _ _ h => h) (Or.inl ⟨by rfl, ?_⟩) (by assumption) ?_
    rotate_left
    · intro w hSw
      (try dsimp only at hSw)
      go_simp
      with_reducible rfl
    try simp only [Act.put, List.setIfInBounds_toArray, List.set_cons_zero, List.set_cons_succ]
    refine wpAnyH_take (i := 3) (oi := { dst := some 13, op := Op.move (Operand.tmp 1), type := 3, pos := "field.go:131", after := #[], guard := none }) (v := ?_) rfl (by kernel_rfl) (by kernel_rfl) (by kernel_rfl) (fun _ _ _ h => h) (Or.inl ⟨by rfl, ?_⟩) (by assumption) ?_
    rotate_left
    · intro w hSw
      (try dsimp only at hSw)
      go_simp
      with_reducible rfl
    try simp only [Act.put, List.setIfInBounds_toArray, List.set_cons_zero, List.set_cons_succ]
    refine wpAnyH_take (i := 5) (oi := { dst := some 15, op := Op.fieldAddr 72 (Operand.tmp 3) 0, type := 0, pos := "field.go:131", after := #[], guard := none }) (v := ?_) rfl (by kernel_rfl) (by kernel_rfl) (by kernel_rfl) (fun _ _ _ h => h) (Or.inl ⟨by rfl, ?_⟩) (by assumption) ?_
    rotate_left
    · intro w hSw
      (try dsimp only at hSw)
      go_simp
      with_reducible rfl
    try simp only [Act.put, List.setIfInBounds_toArray, List.set_cons_zero, List.set_cons_succ]
    refine wpAnyH_take (i := 6) (oi := { dst := some 16, op := Op.fieldAddr 24 (Operand.tmp 15) 0, type := 0, pos := "field.go:131", after := #[{ on := 5, ground := Ground.data }], guard := none }) (v := ?_) rfl (by kernel_rfl) (by kernel_rfl) (by kernel_rfl) (fun _ _ _ h => h) (Or.inl ⟨by rfl, ?_⟩) (by assumption) ?_
    rotate_left
    · intro w hSw
      (try dsimp only at hSw)
      go_simp
      with_reducible rfl
    try simp only [Act.put, List.setIfInBounds_toArray, List.set_cons_zero, List.set_cons_succ]
    refine wpAnyH_take (i := 7) (oi := { dst := some 17, op := Op.load 3 (Operand.tmp 16), type := 3, pos := "field.go:131", after := #[{ on := 6, ground := Ground.data }], guard := none }) (v := ?_) rfl (by kernel_rfl) (by kernel_rfl) (by kernel_rfl) (fun _ _ _ h => h) (Or.inl ⟨by rfl, ?_⟩) (by assumption) ?_
    rotate_left
    · intro w hSw
      (try dsimp only at hSw)
      go_simp
      with_reducible rfl
    try simp only [Act.put, List.setIfInBounds_toArray, List.set_cons_zero, List.set_cons_succ]
    refine wpAnyH_take (i := 8) (oi := { dst := some 18, op := Op.move (Operand.tmp 2), type := 3, pos := "field.go:131", after := #[], guard := none }) (v := ?_) rfl (by kernel_rfl) (by kernel_rfl) (by kernel_rfl) (fun _ _ _ h => h) (Or.inl ⟨by rfl, ?_⟩) (by assumption) ?_
    rotate_left
    · intro w hSw
      (try dsimp only at hSw)
      go_simp
      with_reducible rfl
    try simp only [Act.put, List.setIfInBounds_toArray, List.set_cons_zero, List.set_cons_succ]
    refine wpAnyH_ready (rs := [4, 10, 11]) (by kernel_rfl) (by simp) ?_
    refine AllReadyH.cons (o := { dst := some 14, op := Op.call { callee := Callee.value (Operand.func 68), args := #[Operand.tmp 12, Operand.tmp 13], argTypes := #[3, 3] }, type := 89, pos := "field.go:131", after := #[{ on := 2, ground := Ground.data }, { on := 3, ground := Ground.data }], guard := none }) rfl (fun K hK => ?_) ?_
    · go_simp
      refine (HD1.out _).mono ?_
      rintro e W2 ⟨rfl, hbl⟩
      replace HSI := Lib.hid (HSI.out.call hbl)
      clear hbl hHeld
      go_simp
      refine hK.out _ _ HSI.out.cell (fun hHeld => ?_)
      clear hK K
      try simp only [Act.put, List.setIfInBounds_toArray, List.set_cons_zero, List.set_cons_succ]
      refine wpAnyH_ready (rs := [9, 10, 11]) (by kernel_rfl) (by simp) ?_
      refine AllReadyH.cons (o := { dst := some 19, op := Op.call { callee := Callee.value (Operand.func 68), args := #[Operand.tmp 17, Operand.tmp 18], argTypes := #[3, 3] }, type := 89, pos := "field.go:131", after := #[{ on := 7, ground := Ground.data }, { on := 8, ground := Ground.data }, { on := 4, ground := Ground.chain }], guard := none }) rfl (fun K hK => ?_) ?_
      · go_simp
        refine (HD2.out _).mono ?_
        rintro e W2 ⟨rfl, hbl⟩
        replace HSI := Lib.hid (HSI.out.call hbl)
        clear hbl hHeld
        go_simp
        refine hK.out _ _ HSI.out.cell (fun hHeld => ?_)
        clear hK K
        try simp only [Act.put, List.setIfInBounds_toArray, List.set_cons_zero, List.set_cons_succ]
        refine wpAnyH_ready (rs := [10, 11]) (by kernel_rfl) (by simp) ?_
        refine AllReadyH.cons (o := { dst := some 7, op := Op.alloc 89, type := 0, pos := "field.go:131", after := #[], guard := none }) rfl (fun K hK => ?_) ?_
        · go_simp
          replace HSI := Lib.hid (HSI.out.make1 89)
          clear hHeld
          refine hK.out _ _ HSI.out.cell (fun hHeld => ?_)
          clear hK K hHeld
          obtain ⟨b7, hbk⟩ : ∃ b, b = (W2).heap.size := ⟨_, rfl⟩
          obtain ⟨W3, hW3⟩ : ∃ Wn, Wn = (W2).alloc (.cells polyZ 89) := ⟨_, rfl⟩
          rw [← hW3] at HSI ⊢
          rw [← hbk] at HSI ⊢
          clear hW3 hbk
          have hHeld := HSI.out.cell
          try simp only [Act.put, List.setIfInBounds_toArray, List.set_cons_zero, List.set_cons_succ]
          refine wpAnyH_ready (rs := [11]) (by kernel_rfl) (by simp) ?_
          refine AllReadyH.cons (o := { dst := some 8, op := Op.alloc 89, type := 0, pos := "field.go:131", after := #[], guard := none }) rfl (fun K hK => ?_) AllReadyH.nil
          go_simp
          replace HSI := Lib.hid (HSI.out.make2 89)
          clear hHeld
          refine hK.out _ _ HSI.out.cell (fun hHeld => ?_)
          clear hK K hHeld
          obtain ⟨b8, hbk⟩ : ∃ b, b = (W3).heap.size := ⟨_, rfl⟩
          obtain ⟨W3, hW3⟩ : ∃ Wn, Wn = (W3).alloc (.cells polyZ 89) := ⟨_, rfl⟩
          rw [← hW3] at HSI ⊢
          rw [← hbk] at HSI ⊢
          clear hW3 hbk
          have hHeld := HSI.out.cell
          try simp only [Act.put, List.setIfInBounds_toArray, List.set_cons_zero, List.set_cons_succ]
          refine wpAnyH_ready (rs := [12]) (by kernel_rfl) (by simp) ?_
          refine AllReadyH.cons (o := { dst := none, op := Op.store 89 (Operand.tmp 7) (Operand.tmp 14), type := 0, pos := "field.go:131", after := #[{ on := 10, ground := Ground.data }, { on := 4, ground := Ground.data }, { on := 9, ground := Ground.chain }, { on := 0, ground := Ground.phase }, { on := 1, ground := Ground.phase }, { on := 2, ground := Ground.phase }, { on := 3, ground := Ground.phase }, { on := 4, ground := Ground.phase }, { on := 5, ground := Ground.textOnly Departure.lateStores }, { on := 6, ground := Ground.textOnly Departure.lateStores }, { on := 7, ground := Ground.textOnly Departure.lateStores }, { on := 8, ground := Ground.textOnly Departure.lateStores }, { on := 9, ground := Ground.textOnly Departure.lateStoresUnsure }, { on := 10, ground := Ground.phase }, { on := 11, ground := Ground.phase }], guard := none }) rfl (fun K hK => ?_) AllReadyH.nil
          go_simp
          rw [stP_run (P := Tryd.prog) HSI.out.wr1]
          replace HSI := Lib.hid (HSI.out.put1 (dF p a))
          clear hHeld
          go_simp
          refine hK.out _ _ HSI.out.cell (fun hHeld => ?_)
          clear hK K hHeld
          obtain ⟨W4, hW4⟩ : ∃ Wn, Wn = stP (W3) b7 (dF p a) := ⟨_, rfl⟩
          rw [← hW4] at HSI ⊢
          clear hW4
          have hHeld := HSI.out.cell
          try simp only [Act.put]
          refine wpAnyH_ready (rs := [13]) (by kernel_rfl) (by simp) ?_
          refine AllReadyH.cons (o := { dst := none, op := Op.store 89 (Operand.tmp 8) (Operand.tmp 19), type := 0, pos := "field.go:131", after := #[{ on := 11, ground := Ground.data }, { on := 9, ground := Ground.data }, { on := 12, ground := Ground.chain }, { on := 0, ground := Ground.phase }, { on := 1, ground := Ground.phase }, { on := 2, ground := Ground.phase }, { on := 3, ground := Ground.phase }, { on := 4, ground := Ground.phase }, { on := 5, ground := Ground.phase }, { on := 6, ground := Ground.phase }, { on := 7, ground := Ground.phase }, { on := 8, ground := Ground.phase }, { on := 9, ground := Ground.phase }, { on := 10, ground := Ground.phase }, { on := 11, ground := Ground.phase }, { on := 12, ground := Ground.phase }], guard := none }) rfl (fun K hK => ?_) AllReadyH.nil
          go_simp
          rw [stP_run (P := Tryd.prog) HSI.out.wr2]
          replace HSI := Lib.hid (HSI.out.put2 (dF p b))
          clear hHeld
          go_simp
          refine hK.out _ _ HSI.out.cell (fun hHeld => ?_)
          clear hK K hHeld
          obtain ⟨W4, hW4⟩ : ∃ Wn, Wn = stP (W4) b8 (dF p b) := ⟨_, rfl⟩
          rw [← hW4] at HSI ⊢
          clear hW4
          have hHeld := HSI.out.cell
          try simp only [Act.put]
          refine wpAnyH_done (by kernel_rfl) ?_ _
          refine NoPanic.normal ?_
          go_wp2_with fail
          go_meet
          exact ⟨b7, b8, rfl, rfl, HSI.out.two⟩
        refine AllReadyH.cons (o := { dst := some 8, op := Op.alloc 89, type := 0, pos := "field.go:131", after := #[], guard := none }) rfl (fun K hK => ?_) AllReadyH.nil
        go_simp
        replace HSI := Lib.hid (HSI.out.make2 89)
        clear hHeld
        refine hK.out _ _ HSI.out.cell (fun hHeld => ?_)
        clear hK K hHeld
        obtain ⟨b8, hbk⟩ : ∃ b, b = (W2).heap.size := ⟨_, rfl⟩
        obtain ⟨W3, hW3⟩ : ∃ Wn, Wn = (W2).alloc (.cells polyZ 89) := ⟨_, rfl⟩
        rw [← hW3] at HSI ⊢
        rw [← hbk] at HSI ⊢
        clear hW3 hbk
        have hHeld := HSI.out.cell
        try simp only [Act.put, List.setIfInBounds_toArray, List.set_cons_zero, List.set_cons_succ]
        refine wpAnyH_ready (rs := [10]) (by kernel_rfl) (by simp) ?_
        refine AllReadyH.cons (o := { dst := some 7, op := Op.alloc 89, type := 0, pos := "field.go:131", after := #[], guard := none }) rfl (fun K hK => ?_) AllReadyH.nil
        go_simp
        replace HSI := Lib.hid (HSI.out.make1 89)
        clear hHeld
        refine hK.out _ _ HSI.out.cell (fun hHeld => ?_)
        clear hK K hHeld
        obtain ⟨b7, hbk⟩ : ∃ b, b = (W3).heap.size := ⟨_, rfl⟩
        obtain ⟨W3, hW3⟩ : ∃ Wn, Wn = (W3).alloc (.cells polyZ 89) := ⟨_, rfl⟩
        rw [← hW3] at HSI ⊢
        rw [← hbk] at HSI ⊢
        clear hW3 hbk
        have hHeld := HSI.out.cell
        try simp only [Act.put, List.setIfInBounds_toArray, List.set_cons_zero, List.set_cons_succ]
        refine wpAnyH_ready (rs := [12]) (by kernel_rfl) (by simp) ?_
        refine AllReadyH.cons (o := { dst := none, op := Op.store 89 (Operand.tmp 7) (Operand.tmp 14), type := 0, pos := "field.go:131", after := #[{ on := 10, ground := Ground.data }, { on := 4, ground := Ground.data }, { on := 9, ground := Ground.chain }, { on := 0, ground := Ground.phase }, { on := 1, ground := Ground.phase }, { on := 2, ground := Ground.phase }, { on := 3, ground := Ground.phase }, { on := 4, ground := Ground.phase }, { on := 5, ground := Ground.textOnly Departure.lateStores }, { on := 6, ground := Ground.textOnly Departure.lateStores }, { on := 7, ground := Ground.textOnly Departure.lateStores }, { on := 8, ground := Ground.textOnly Departure.lateStores }, { on := 9, ground := Ground.textOnly Departure.lateStoresUnsure }, { on := 10, ground := Ground.phase }, { on := 11, ground := Ground.phase }], guard := none }) rfl (fun K hK => ?_) AllReadyH.nil
        go_simp
        rw [stP_run (P := Tryd.prog) HSI.out.wr1]
        replace HSI := Lib.hid (HSI.out.put1 (dF p a))
        clear hHeld
        go_simp
        refine hK.out _ _ HSI.out.cell (fun hHeld => ?_)
        clear hK K hHeld
        obtain ⟨W4, hW4⟩ : ∃ Wn, Wn = stP (W3) b7 (dF p a) := ⟨_, rfl⟩
        rw [← hW4] at HSI ⊢
        clear hW4
        have hHeld := HSI.out.cell
        try simp only [Act.put]
        refine wpAnyH_ready (rs := [13]) (by kernel_rfl) (by simp) ?_
        refine AllReadyH.cons (o := { dst := none, op := Op.store 89 (Operand.tmp 8) (Operand.tmp 19), type := 0, pos := "field.go:131", after := #[{ on := 11, ground := Ground.data }, { on := 9, ground := Ground.data }, { on := 12, ground := Ground.chain }, { on := 0, ground := Ground.phase }, { on := 1, ground := Ground.phase }, { on := 2, ground := Ground.phase }, { on := 3, ground := Ground.phase }, { on := 4, ground := Ground.phase }, { on := 5, ground := Ground.phase }, { on := 6, ground := Ground.phase }, { on := 7, ground := Ground.phase }, { on := 8, ground := Ground.phase }, { on := 9, ground := Ground.phase }, { on := 10, ground := Ground.phase }, { on := 11, ground := Ground.phase }, { on := 12, ground := Ground.phase }], guard := none }) rfl (fun K hK => ?_) AllReadyH.nil
        go_simp
        rw [stP_run (P := Tryd.prog) HSI.out.wr2]
        replace HSI := Lib.hid (HSI.out.put2 (dF p b))
        clear hHeld
        go_simp
        refine hK.out _ _ HSI.out.cell (fun hHeld => ?_)
        clear hK K hHeld
        obtain ⟨W4, hW4⟩ : ∃ Wn, Wn = stP (W4) b8 (dF p b) := ⟨_, rfl⟩
        rw [← hW4] at HSI ⊢
        clear hW4
        have hHeld := HSI.out.cell
        try simp only [Act.put]
        refine wpAnyH_done (by kernel_rfl) ?_ _
        refine NoPanic.normal ?_
        go_wp2_with fail
        go_meet
        exact ⟨b7, b8, rfl, rfl, HSI.out.two⟩
      refine AllReadyH.cons (o := { dst := some 7, op := Op.alloc 89, type := 0, pos := "field.go:131", after := #[], guard := none }) rfl (fun K hK => ?_) ?_
      · go_simp
        replace HSI := Lib.hid (HSI.out.make1 89)
        clear hHeld
        refine hK.out _ _ HSI.out.cell (fun hHeld => ?_)
        clear hK K hHeld
        obtain ⟨b7, hbk⟩ : ∃ b, b = (W2).heap.size := ⟨_, rfl⟩
        obtain ⟨W3, hW3⟩ : ∃ Wn, Wn = (W2).alloc (.cells polyZ 89) := ⟨_, rfl⟩
        rw [← hW3] at HSI ⊢
        rw [← hbk] at HSI ⊢
        clear hW3 hbk
        have hHeld := HSI.out.cell
        try simp only [Act.put, List.setIfInBounds_toArray, List.set_cons_zero, List.set_cons_succ]
        refine wpAnyH_ready (rs := [9, 11]) (by kernel_rfl) (by simp) ?_
        refine AllReadyH.cons (o := { dst := some 19, op := Op.call { callee := Callee.value (Operand.func 68), args := #[Operand.tmp 17, Operand.tmp 18], argTypes := #[3, 3] }, type := 89, pos := "field.go:131", after := #[{ on := 7, ground := Ground.data }, { on := 8, ground := Ground.data }, { on := 4, ground := Ground.chain }], guard := none }) rfl (fun K hK => ?_) ?_
        · go_simp
          refine (HD2.out _).mono ?_
          rintro e W2 ⟨rfl, hbl⟩
          replace HSI := Lib.hid (HSI.out.call hbl)
          clear hbl hHeld
          go_simp
          refine hK.out _ _ HSI.out.cell (fun hHeld => ?_)
          clear hK K
          try simp only [Act.put, List.setIfInBounds_toArray, List.set_cons_zero, List.set_cons_succ]
          refine wpAnyH_ready (rs := [11]) (by kernel_rfl) (by simp) ?_
          refine AllReadyH.cons (o := { dst := some 8, op := Op.alloc 89, type := 0, pos := "field.go:131", after := #[], guard := none }) rfl (fun K hK => ?_) AllReadyH.nil
          go_simp
          replace HSI := Lib.hid (HSI.out.make2 89)
          clear hHeld
          refine hK.out _ _ HSI.out.cell (fun hHeld => ?_)
          clear hK K hHeld
          obtain ⟨b8, hbk⟩ : ∃ b, b = (W2).heap.size := ⟨_, rfl⟩
          obtain ⟨W3, hW3⟩ : ∃ Wn, Wn = (W2).alloc (.cells polyZ 89) := ⟨_, rfl⟩
          rw [← hW3] at HSI ⊢
          rw [← hbk] at HSI ⊢
          clear hW3 hbk
          have hHeld := HSI.out.cell
          try simp only [Act.put, List.setIfInBounds_toArray, List.set_cons_zero, List.set_cons_succ]
          refine wpAnyH_ready (rs := [12]) (by kernel_rfl) (by simp) ?_
          refine AllReadyH.cons (o := { dst := none, op := Op.store 89 (Operand.tmp 7) (Operand.tmp 14), type := 0, pos := "field.go:131", after := #[{ on := 10, ground := Ground.data }, { on := 4, ground := Ground.data }, { on := 9, ground := Ground.chain }, { on := 0, ground := Ground.phase }, { on := 1, ground := Ground.phase }, { on := 2, ground := Ground.phase }, { on := 3, ground := Ground.phase }, { on := 4, ground := Ground.phase }, { on := 5, ground := Ground.textOnly Departure.lateStores }, { on := 6, ground := Ground.textOnly Departure.lateStores }, { on := 7, ground := Ground.textOnly Departure.lateStores }, { on := 8, ground := Ground.textOnly Departure.lateStores }, { on := 9, ground := Ground.textOnly Departure.lateStoresUnsure }, { on := 10, ground := Ground.phase }, { on := 11, ground := Ground.phase }], guard := none }) rfl (fun K hK => ?_) AllReadyH.nil
          go_simp
          rw [stP_run (P := Tryd.prog) HSI.out.wr1]
          replace HSI := Lib.hid (HSI.out.put1 (dF p a))
          clear hHeld
          go_simp
          refine hK.out _ _ HSI.out.cell (fun hHeld => ?_)
          clear hK K hHeld
          obtain ⟨W4, hW4⟩ : ∃ Wn, Wn = stP (W3) b7 (dF p a) := ⟨_, rfl⟩
          rw [← hW4] at HSI ⊢
          clear hW4
          have hHeld := HSI.out.cell
          try simp only [Act.put]
          refine wpAnyH_ready (rs := [13]) (by kernel_rfl) (by simp) ?_
          refine AllReadyH.cons (o := { dst := none, op := Op.store 89 (Operand.tmp 8) (Operand.tmp 19), type := 0, pos := "field.go:131", after := #[{ on := 11, ground := Ground.data }, { on := 9, ground := Ground.data }, { on := 12, ground := Ground.chain }, { on := 0, ground := Ground.phase }, { on := 1, ground := Ground.phase }, { on := 2, ground := Ground.phase }, { on := 3, ground := Ground.phase }, { on := 4, ground := Ground.phase }, { on := 5, ground := Ground.phase }, { on := 6, ground := Ground.phase }, { on := 7, ground := Ground.phase }, { on := 8, ground := Ground.phase }, { on := 9, ground := Ground.phase }, { on := 10, ground := Ground.phase }, { on := 11, ground := Ground.phase }, { on := 12, ground := Ground.phase }], guard := none }) rfl (fun K hK => ?_) AllReadyH.nil
          go_simp
          rw [stP_run (P := Tryd.prog) HSI.out.wr2]
          replace HSI := Lib.hid (HSI.out.put2 (dF p b))
          clear hHeld
          go_simp
          refine hK.out _ _ HSI.out.cell (fun hHeld => ?_)
          clear hK K hHeld
          obtain ⟨W4, hW4⟩ : ∃ Wn, Wn = stP (W4) b8 (dF p b) := ⟨_, rfl⟩
          rw [← hW4] at HSI ⊢
          clear hW4
          have hHeld := HSI.out.cell
          try simp only [Act.put]
          refine wpAnyH_done (by kernel_rfl) ?_ _
          refine NoPanic.normal ?_
          go_wp2_with fail
          go_meet
          exact ⟨b7, b8, rfl, rfl, HSI.out.two⟩
        refine AllReadyH.cons (o := { dst := some 8, op := Op.alloc 89, type := 0, pos := "field.go:131", after := #[], guard := none }) rfl (fun K hK => ?_) AllReadyH.nil
        go_simp
        replace HSI := Lib.hid (HSI.out.make2 89)
        clear hHeld
        refine hK.out _ _ HSI.out.cell (fun hHeld => ?_)
        clear hK K hHeld
        obtain ⟨b8, hbk⟩ : ∃ b, b = (W3).heap.size := ⟨_, rfl⟩
        obtain ⟨W3, hW3⟩ : ∃ Wn, Wn = (W3).alloc (.cells polyZ 89) := ⟨_, rfl⟩
        rw [← hW3] at HSI ⊢
        rw [← hbk] at HSI ⊢
        clear hW3 hbk
        have hHeld := HSI.out.cell
        try simp only [Act.put, List.setIfInBounds_toArray, List.set_cons_zero, List.set_cons_succ]
        refine wpAnyH_ready (rs := [9]) (by kernel_rfl) (by simp) ?_
        refine AllReadyH.cons (o := { dst := some 19, op := Op.call { callee := Callee.value (Operand.func 68), args := #[Operand.tmp 17, Operand.tmp 18], argTypes := #[3, 3] }, type := 89, pos := "field.go:131", after := #[{ on := 7, ground := Ground.data }, { on := 8, ground := Ground.data }, { on := 4, ground := Ground.chain }], guard := none }) rfl (fun K hK => ?_) AllReadyH.nil
        go_simp
        refine (HD2.out _).mono ?_
        rintro e W2 ⟨rfl, hbl⟩
        replace HSI := Lib.hid (HSI.out.call hbl)
        clear hbl hHeld
        go_simp
        refine hK.out _ _ HSI.out.cell (fun hHeld => ?_)
        clear hK K
        try simp only [Act.put, List.setIfInBounds_toArray, List.set_cons_zero, List.set_cons_succ]
        refine wpAnyH_ready (rs := [12]) (by kernel_rfl) (by simp) ?_
        refine AllReadyH.cons (o := { dst := none, op := Op.store 89 (Operand.tmp 7) (Operand.tmp 14), type := 0, pos := "field.go:131", after := #[{ on := 10, ground := Ground.data }, { on := 4, ground := Ground.data }, { on := 9, ground := Ground.chain }, { on := 0, ground := Ground.phase }, { on := 1, ground := Ground.phase }, { on := 2, ground := Ground.phase }, { on := 3, ground := Ground.phase }, { on := 4, ground := Ground.phase }, { on := 5, ground := Ground.textOnly Departure.lateStores }, { on := 6, ground := Ground.textOnly Departure.lateStores }, { on := 7, ground := Ground.textOnly Departure.lateStores }, { on := 8, ground := Ground.textOnly Departure.lateStores }, { on := 9, ground := Ground.textOnly Departure.lateStoresUnsure }, { on := 10, ground := Ground.phase }, { on := 11, ground := Ground.phase }], guard := none }) rfl (fun K hK => ?_) AllReadyH.nil
        go_simp
        rw [stP_run (P := Tryd.prog) HSI.out.wr1]
        replace HSI := Lib.hid (HSI.out.put1 (dF p a))
        clear hHeld
        go_simp
        refine hK.out _ _ HSI.out.cell (fun hHeld => ?_)
        clear hK K hHeld
        obtain ⟨W4, hW4⟩ : ∃ Wn, Wn = stP (W2) b7 (dF p a) := ⟨_, rfl⟩
        rw [← hW4] at HSI ⊢
        clear hW4
        have hHeld := HSI.out.cell
        try simp only [Act.put]
        refine wpAnyH_ready (rs := [13]) (by kernel_rfl) (by simp) ?_
        refine AllReadyH.cons (o := { dst := none, op := Op.store 89 (Operand.tmp 8) (Operand.tmp 19), type := 0, pos := "field.go:131", after := #[{ on := 11, ground := Ground.data }, { on := 9, ground := Ground.data }, { on := 12, ground := Ground.chain }, { on := 0, ground := Ground.phase }, { on := 1, ground := Ground.phase }, { on := 2, ground := Ground.phase }, { on := 3, ground := Ground.phase }, { on := 4, ground := Ground.phase }, { on := 5, ground := Ground.phase }, { on := 6, ground := Ground.phase }, { on := 7, ground := Ground.phase }, { on := 8, ground := Ground.phase }, { on := 9, ground := Ground.phase }, { on := 10, ground := Ground.phase }, { on := 11, ground := Ground.phase }, { on := 12, ground := Ground.phase }], guard := none }) rfl (fun K hK => ?_) AllReadyH.nil
        go_simp
        rw [stP_run (P := Tryd.prog) HSI.out.wr2]
        replace HSI := Lib.hid (HSI.out.put2 (dF p b))
        clear hHeld
        go_simp
        refine hK.out _ _ HSI.out.cell (fun hHeld => ?_)
        clear hK K hHeld
        obtain ⟨W4, hW4⟩ : ∃ Wn, Wn = stP (W4) b8 (dF p b) := ⟨_, rfl⟩
        rw [← hW4] at HSI ⊢
        clear hW4
        have hHeld := HSI.out.cell
        try simp only [Act.put]
        refine wpAnyH_done (by kernel_rfl) ?_ _
        refine NoPanic.normal ?_
        go_wp2_with fail
        go_meet
        exact ⟨b7, b8, rfl, rfl, HSI.out.two⟩
      refine AllReadyH.cons (o := { dst := some 8, op := Op.alloc 89, type := 0, pos := "field.go:131", after := #[], guard := none }) rfl (fun K hK => ?_) AllReadyH.nil
      go_simp
      replace HSI := Lib.hid (HSI.out.make2 89)
      clear hHeld
      refine hK.out _ _ HSI.out.cell (fun hHeld => ?_)
      clear hK K hHeld
      obtain ⟨b8, hbk⟩ : ∃ b, b = (W2).heap.size := ⟨_, rfl⟩
      obtain ⟨W3, hW3⟩ : ∃ Wn, Wn = (W2).alloc (.cells polyZ 89) := ⟨_, rfl⟩
      rw [← hW3] at HSI ⊢
      rw [← hbk] at HSI ⊢
      clear hW3 hbk
      have hHeld := HSI.out.cell
      try simp only [Act.put, List.setIfInBounds_toArray, List.set_cons_zero, List.set_cons_succ]
      refine wpAnyH_ready (rs := [9, 10]) (by kernel_rfl) (by simp) ?_
      refine AllReadyH.cons (o := { dst := some 19, op := Op.call { callee := Callee.value (Operand.func 68), args := #[Operand.tmp 17, Operand.tmp 18], argTypes := #[3, 3] }, type := 89, pos := "field.go:131", after := #[{ on := 7, ground := Ground.data }, { on := 8, ground := Ground.data }, { on := 4, ground := Ground.chain }], guard := none }) rfl (fun K hK => ?_) ?_
      · go_simp
        refine (HD2.out _).mono ?_
        rintro e W2 ⟨rfl, hbl⟩
        replace HSI := Lib.hid (HSI.out.call hbl)
        clear hbl hHeld
        go_simp
        refine hK.out _ _ HSI.out.cell (fun hHeld => ?_)
        clear hK K
        try simp only [Act.put, List.setIfInBounds_toArray, List.set_cons_zero, List.set_cons_succ]
        refine wpAnyH_ready (rs := [10]) (by kernel_rfl) (by simp) ?_
        refine AllReadyH.cons (o := { dst := some 7, op := Op.alloc 89, type := 0, pos := "field.go:131", after := #[], guard := none }) rfl (fun K hK => ?_) AllReadyH.nil
        go_simp
        replace HSI := Lib.hid (HSI.out.make1 89)
        clear hHeld
        refine hK.out _ _ HSI.out.cell (fun hHeld => ?_)
        clear hK K hHeld
        obtain ⟨b7, hbk⟩ : ∃ b, b = (W2).heap.size := ⟨_, rfl⟩
        obtain ⟨W3, hW3⟩ : ∃ Wn, Wn = (W2).alloc (.cells polyZ 89) := ⟨_, rfl⟩
        rw [← hW3] at HSI ⊢
        rw [← hbk] at HSI ⊢
        clear hW3 hbk
        have hHeld := HSI.out.cell
        try simp only [Act.put, List.setIfInBounds_toArray, List.set_cons_zero, List.set_cons_succ]
        refine wpAnyH_ready (rs := [12]) (by kernel_rfl) (by simp) ?_
        refine AllReadyH.cons (o := { dst := none, op := Op.store 89 (Operand.tmp 7) (Operand.tmp 14), type := 0, pos := "field.go:131", after := #[{ on := 10, ground := Ground.data }, { on := 4, ground := Ground.data }, { on := 9, ground := Ground.chain }, { on := 0, ground := Ground.phase }, { on := 1, ground := Ground.phase }, { on := 2, ground := Ground.phase }, { on := 3, ground := Ground.phase }, { on := 4, ground := Ground.phase }, { on := 5, ground := Ground.textOnly Departure.lateStores }, { on := 6, ground := Ground.textOnly Departure.lateStores }, { on := 7, ground := Ground.textOnly Departure.lateStores }, { on := 8, ground := Ground.textOnly Departure.lateStores }, { on := 9, ground := Ground.textOnly Departure.lateStoresUnsure }, { on := 10, ground := Ground.phase }, { on := 11, ground := Ground.phase }], guard := none }) rfl (fun K hK => ?_) AllReadyH.nil
        go_simp
        rw [stP_run (P := Tryd.prog) HSI.out.wr1]
        replace HSI := Lib.hid (HSI.out.put1 (dF p a))
        clear hHeld
        go_simp
        refine hK.out _ _ HSI.out.cell (fun hHeld => ?_)
        clear hK K hHeld
        obtain ⟨W4, hW4⟩ : ∃ Wn, Wn = stP (W3) b7 (dF p a) := ⟨_, rfl⟩
        rw [← hW4] at HSI ⊢
        clear hW4
        have hHeld := HSI.out.cell
        try simp only [Act.put]
        refine wpAnyH_ready (rs := [13]) (by kernel_rfl) (by simp) ?_
        refine AllReadyH.cons (o := { dst := none, op := Op.store 89 (Operand.tmp 8) (Operand.tmp 19), type := 0, pos := "field.go:131", after := #[{ on := 11, ground := Ground.data }, { on := 9, ground := Ground.data }, { on := 12, ground := Ground.chain }, { on := 0, ground := Ground.phase }, { on := 1, ground := Ground.phase }, { on := 2, ground := Ground.phase }, { on := 3, ground := Ground.phase }, { on := 4, ground := Ground.phase }, { on := 5, ground := Ground.phase }, { on := 6, ground := Ground.phase }, { on := 7, ground := Ground.phase }, { on := 8, ground := Ground.phase }, { on := 9, ground := Ground.phase }, { on := 10, ground := Ground.phase }, { on := 11, ground := Ground.phase }, { on := 12, ground := Ground.phase }], guard := none }) rfl (fun K hK => ?_) AllReadyH.nil
        go_simp
        rw [stP_run (P := Tryd.prog) HSI.out.wr2]
        replace HSI := Lib.hid (HSI.out.put2 (dF p b))
        clear hHeld
        go_simp
        refine hK.out _ _ HSI.out.cell (fun hHeld => ?_)
        clear hK K hHeld
        obtain ⟨W4, hW4⟩ : ∃ Wn, Wn = stP (W4) b8 (dF p b) := ⟨_, rfl⟩
        rw [← hW4] at HSI ⊢
        clear hW4
        have hHeld := HSI.out.cell
        try simp only [Act.put]
        refine wpAnyH_done (by kernel_rfl) ?_ _
        refine NoPanic.normal ?_
        go_wp2_with fail
        go_meet
        exact ⟨b7, b8, rfl, rfl, HSI.out.two⟩
      refine AllReadyH.cons (o := { dst := some 7, op := Op.alloc 89, type := 0, pos := "field.go:131", after := #[], guard := none }) rfl (fun K hK => ?_) AllReadyH.nil
      go_simp
      replace HSI := Lib.hid (HSI.out.make1 89)
      clear hHeld
      refine hK.out _ _ HSI.out.cell (fun hHeld => ?_)
      clear hK K hHeld
      obtain ⟨b7, hbk⟩ : ∃ b, b = (W3).heap.size := ⟨_, rfl⟩
      obtain ⟨W3, hW3⟩ : ∃ Wn, Wn = (W3).alloc (.cells polyZ 89) := ⟨_, rfl⟩
      rw [← hW3] at HSI ⊢
      rw [← hbk] at HSI ⊢
      clear hW3 hbk
      have hHeld := HSI.out.cell
      try simp only [Act.put, List.setIfInBounds_toArray, List.set_cons_zero, List.set_cons_succ]
      refine wpAnyH_ready (rs := [9]) (by kernel_rfl) (by simp) ?_
      refine AllReadyH.cons (o := { dst := some 19, op := Op.call { callee := Callee.value (Operand.func 68), args := #[Operand.tmp 17, Operand.tmp 18], argTypes := #[3, 3] }, type := 89, pos := "field.go:131", after := #[{ on := 7, ground := Ground.data }, { on := 8, ground := Ground.data }, { on := 4, ground := Ground.chain }], guard := none }) rfl (fun K hK => ?_) AllReadyH.nil
      go_simp
      refine (HD2.out _).mono ?_
      rintro e W2 ⟨rfl, hbl⟩
      replace HSI := Lib.hid (HSI.out.call hbl)
      clear hbl hHeld
      go_simp
      refine hK.out _ _ HSI.out.cell (fun hHeld => ?_)
      clear hK K
      try simp only [Act.put, List.setIfInBounds_toArray, List.set_cons_zero, List.set_cons_succ]
      refine wpAnyH_ready (rs := [12]) (by kernel_rfl) (by simp) ?_
      refine AllReadyH.cons (o := { dst := none, op := Op.store 89 (Operand.tmp 7) (Operand.tmp 14), type := 0, pos := "field.go:131", after := #[{ on := 10, ground := Ground.data }, { on := 4, ground := Ground.data }, { on := 9, ground := Ground.chain }, { on := 0, ground := Ground.phase }, { on := 1, ground := Ground.phase }, { on := 2, ground := Ground.phase }, { on := 3, ground := Ground.phase }, { on := 4, ground := Ground.phase }, { on := 5, ground := Ground.textOnly Departure.lateStores }, { on := 6, ground := Ground.textOnly Departure.lateStores }, { on := 7, ground := Ground.textOnly Departure.lateStores }, { on := 8, ground := Ground.textOnly Departure.lateStores }, { on := 9, ground := Ground.textOnly Departure.lateStoresUnsure }, { on := 10, ground := Ground.phase }, { on := 11, ground := Ground.phase }], guard := none }) rfl (fun K hK => ?_) AllReadyH.nil
      go_simp
      rw [stP_run (P := Tryd.prog) HSI.out.wr1]
      replace HSI := Lib.hid (HSI.out.put1 (dF p a))
      clear hHeld
      go_simp
      refine hK.out _ _ HSI.out.cell (fun hHeld => ?_)
      clear hK K hHeld
      obtain ⟨W4, hW4⟩ : ∃ Wn, Wn = stP (W2) b7 (dF p a) := ⟨_, rfl⟩
      rw [← hW4] at HSI ⊢
      clear hW4
      have hHeld := HSI.out.cell
      try simp only [Act.put]
      refine wpAnyH_ready (rs := [13]) (by kernel_rfl) (by simp) ?_
      refine AllReadyH.cons (o := { dst := none, op := Op.store 89 (Operand.tmp 8) (Operand.tmp 19), type := 0, pos := "field.go:131", after := #[{ on := 11, ground := Ground.data }, { on := 9, ground := Ground.data }, { on := 12, ground := Ground.chain }, { on := 0, ground := Ground.phase }, { on := 1, ground := Ground.phase }, { on := 2, ground := Ground.phase }, { on := 3, ground := Ground.phase }, { on := 4, ground := Ground.phase }, { on := 5, ground := Ground.phase }, { on := 6, ground := Ground.phase }, { on := 7, ground := Ground.phase }, { on := 8, ground := Ground.phase }, { on := 9, ground := Ground.phase }, { on := 10, ground := Ground.phase }, { on := 11, ground := Ground.phase }, { on := 12, ground := Ground.phase }], guard := none }) rfl (fun K hK => ?_) AllReadyH.nil
      go_simp
      rw [stP_run (P := Tryd.prog) HSI.out.wr2]
      replace HSI := Lib.hid (HSI.out.put2 (dF p b))
      clear hHeld
      go_simp
      refine hK.out _ _ HSI.out.cell (fun hHeld => ?_)
      clear hK K hHeld
      obtain ⟨W4, hW4⟩ : ∃ Wn, Wn = stP (W4) b8 (dF p b) := ⟨_, rfl⟩
      rw [← hW4] at HSI ⊢
      clear hW4
      have hHeld := HSI.out.cell
      try simp only [Act.put]
      refine wpAnyH_done (by kernel_rfl) ?_ _
      refine NoPanic.normal ?_
      go_wp2_with fail
      go_meet
      exact ⟨b7, b8, rfl, rfl, HSI.out.two⟩
    refine AllReadyH.cons (o := { dst := some 7, op := Op.alloc 89, type := 0, pos := "field.go:131", after := #[], guard := none }) rfl (fun K hK => ?_) ?_
    · go_simp
      replace HSI := Lib.hid (HSI.out.make1 89)
      clear hHeld
      refine hK.out _ _ HSI.out.cell (fun hHeld => ?_)
      clear hK K hHeld
      obtain ⟨b7, hbk⟩ : ∃ b, b = (W).heap.size := ⟨_, rfl⟩
      obtain ⟨W3, hW3⟩ : ∃ Wn, Wn = (W).alloc (.cells polyZ 89) := ⟨_, rfl⟩
      rw [← hW3] at HSI ⊢
      rw [← hbk] at HSI ⊢
      clear hW3 hbk
      have hHeld := HSI.out.cell
      try simp only [Act.put, List.setIfInBounds_toArray, List.set_cons_zero, List.set_cons_succ]
      refine wpAnyH_ready (rs := [4, 11]) (by kernel_rfl) (by simp) ?_
      refine AllReadyH.cons (o := { dst := some 14, op := Op.call { callee := Callee.value (Operand.func 68), args := #[Operand.tmp 12, Operand.tmp 13], argTypes := #[3, 3] }, type := 89, pos := "field.go:131", after := #[{ on := 2, ground := Ground.data }, { on := 3, ground := Ground.data }], guard := none }) rfl (fun K hK => ?_) ?_
      · go_simp
        refine (HD1.out _).mono ?_
        rintro e W2 ⟨rfl, hbl⟩
        replace HSI := Lib.hid (HSI.out.call hbl)
        clear hbl hHeld
        go_simp
        refine hK.out _ _ HSI.out.cell (fun hHeld => ?_)
        clear hK K
        try simp only [Act.put, List.setIfInBounds_toArray, List.set_cons_zero, List.set_cons_succ]
        refine wpAnyH_ready (rs := [9, 11]) (by kernel_rfl) (by simp) ?_
        refine AllReadyH.cons (o := { dst := some 19, op := Op.call { callee := Callee.value (Operand.func 68), args := #[Operand.tmp 17, Operand.tmp 18], argTypes := #[3, 3] }, type := 89, pos := "field.go:131", after := #[{ on := 7, ground := Ground.data }, { on := 8, ground := Ground.data }, { on := 4, ground := Ground.chain }], guard := none }) rfl (fun K hK => ?_) ?_
        · go_simp
          refine (HD2.out _).mono ?_
          rintro e W2 ⟨rfl, hbl⟩
          replace HSI := Lib.hid (HSI.out.call hbl)
          clear hbl hHeld
          go_simp
          refine hK.out _ _ HSI.out.cell (fun hHeld => ?_)
          clear hK K
          try simp only [Act.put, List.setIfInBounds_toArray, List.set_cons_zero, List.set_cons_succ]
          refine wpAnyH_ready (rs := [11]) (by kernel_rfl) (by simp) ?_
          refine AllReadyH.cons (o := { dst := some 8, op := Op.alloc 89, type := 0, pos := "field.go:131", after := #[], guard := none }) rfl (fun K hK => ?_) AllReadyH.nil
          go_simp
          replace HSI := Lib.hid (HSI.out.make2 89)
          clear hHeld
          refine hK.out _ _ HSI.out.cell (fun hHeld => ?_)
          clear hK K hHeld
          obtain ⟨b8, hbk⟩ : ∃ b, b = (W2).heap.size := ⟨_, rfl⟩
          obtain ⟨W3, hW3⟩ : ∃ Wn, Wn = (W2).alloc (.cells polyZ 89) := ⟨_, rfl⟩
          rw [← hW3] at HSI ⊢
          rw [← hbk] at HSI ⊢
          clear hW3 hbk
          have hHeld := HSI.out.cell
          try simp only [Act.put, List.setIfInBounds_toArray, List.set_cons_zero, List.set_cons_succ]
          refine wpAnyH_ready (rs := [12]) (by kernel_rfl) (by simp) ?_
          refine AllReadyH.cons (o := { dst := none, op := Op.store 89 (Operand.tmp 7) (Operand.tmp 14), type := 0, pos := "field.go:131", after := #[{ on := 10, ground := Ground.data }, { on := 4, ground := Ground.data }, { on := 9, ground := Ground.chain }, { on := 0, ground := Ground.phase }, { on := 1, ground := Ground.phase }, { on := 2, ground := Ground.phase }, { on := 3, ground := Ground.phase }, { on := 4, ground := Ground.phase }, { on := 5, ground := Ground.textOnly Departure.lateStores }, { on := 6, ground := Ground.textOnly Departure.lateStores }, { on := 7, ground := Ground.textOnly Departure.lateStores }, { on := 8, ground := Ground.textOnly Departure.lateStores }, { on := 9, ground := Ground.textOnly Departure.lateStoresUnsure }, { on := 10, ground := Ground.phase }, { on := 11, ground := Ground.phase }], guard := none }) rfl (fun K hK => ?_) AllReadyH.nil
          go_simp
          rw [stP_run (P := Tryd.prog) HSI.out.wr1]
          replace HSI := Lib.hid (HSI.out.put1 (dF p a))
          clear hHeld
          go_simp
          refine hK.out _ _ HSI.out.cell (fun hHeld => ?_)
          clear hK K hHeld
          obtain ⟨W4, hW4⟩ : ∃ Wn, Wn = stP (W3) b7 (dF p a) := ⟨_, rfl⟩
          rw [← hW4] at HSI ⊢
          clear hW4
          have hHeld := HSI.out.cell
          try simp only [Act.put]
          refine wpAnyH_ready (rs := [13]) (by kernel_rfl) (by simp) ?_
          refine AllReadyH.cons (o := { dst := none, op := Op.store 89 (Operand.tmp 8) (Operand.tmp 19), type := 0, pos := "field.go:131", after := #[{ on := 11, ground := Ground.data }, { on := 9, ground := Ground.data }, { on := 12, ground := Ground.chain }, { on := 0, ground := Ground.phase }, { on := 1, ground := Ground.phase }, { on := 2, ground := Ground.phase }, { on := 3, ground := Ground.phase }, { on := 4, ground := Ground.phase }, { on := 5, ground := Ground.phase }, { on := 6, ground := Ground.phase }, { on := 7, ground := Ground.phase }, { on := 8, ground := Ground.phase }, { on := 9, ground := Ground.phase }, { on := 10, ground := Ground.phase }, { on := 11, ground := Ground.phase }, { on := 12, ground := Ground.phase }], guard := none }) rfl (fun K hK => ?_) AllReadyH.nil
          go_simp
          rw [stP_run (P := Tryd.prog) HSI.out.wr2]
          replace HSI := Lib.hid (HSI.out.put2 (dF p b))
          clear hHeld
          go_simp
          refine hK.out _ _ HSI.out.cell (fun hHeld => ?_)
          clear hK K hHeld
          obtain ⟨W4, hW4⟩ : ∃ Wn, Wn = stP (W4) b8 (dF p b) := ⟨_, rfl⟩
          rw [← hW4] at HSI ⊢
          clear hW4
          have hHeld := HSI.out.cell
          try simp only [Act.put]
          refine wpAnyH_done (by kernel_rfl) ?_ _
          refine NoPanic.normal ?_
          go_wp2_with fail
          go_meet
          exact ⟨b7, b8, rfl, rfl, HSI.out.two⟩
        refine AllReadyH.cons (o := { dst := some 8, op := Op.alloc 89, type := 0, pos := "field.go:131", after := #[], guard := none }) rfl (fun K hK => ?_) AllReadyH.nil
        go_simp
        replace HSI := Lib.hid (HSI.out.make2 89)
        clear hHeld
        refine hK.out _ _ HSI.out.cell (fun hHeld => ?_)
        clear hK K hHeld
        obtain ⟨b8, hbk⟩ : ∃ b, b = (W2).heap.size := ⟨_, rfl⟩
        obtain ⟨W3, hW3⟩ : ∃ Wn, Wn = (W2).alloc (.cells polyZ 89) := ⟨_, rfl⟩
        rw [← hW3] at HSI ⊢
        rw [← hbk] at HSI ⊢
        clear hW3 hbk
        have hHeld := HSI.out.cell
        try simp only [Act.put, List.setIfInBounds_toArray, List.set_cons_zero, List.set_cons_succ]
        refine wpAnyH_ready (rs := [9]) (by kernel_rfl) (by simp) ?_
        refine AllReadyH.cons (o := { dst := some 19, op := Op.call { callee := Callee.value (Operand.func 68), args := #[Operand.tmp 17, Operand.tmp 18], argTypes := #[3, 3] }, type := 89, pos := "field.go:131", after := #[{ on := 7, ground := Ground.data }, { on := 8, ground := Ground.data }, { on := 4, ground := Ground.chain }], guard := none }) rfl (fun K hK => ?_) AllReadyH.nil
        go_simp
        refine (HD2.out _).mono ?_
        rintro e W2 ⟨rfl, hbl⟩
        replace HSI := Lib.hid (HSI.out.call hbl)
        clear hbl hHeld
        go_simp
        refine hK.out _ _ HSI.out.cell (fun hHeld => ?_)
        clear hK K
        try simp only [Act.put, List.setIfInBounds_toArray, List.set_cons_zero, List.set_cons_succ]
        refine wpAnyH_ready (rs := [12]) (by kernel_rfl) (by simp) ?_
        refine AllReadyH.cons (o := { dst := none, op := Op.store 89 (Operand.tmp 7) (Operand.tmp 14), type := 0, pos := "field.go:131", after := #[{ on := 10, ground := Ground.data }, { on := 4, ground := Ground.data }, { on := 9, ground := Ground.chain }, { on := 0, ground := Ground.phase }, { on := 1, ground := Ground.phase }, { on := 2, ground := Ground.phase }, { on := 3, ground := Ground.phase }, { on := 4, ground := Ground.phase }, { on := 5, ground := Ground.textOnly Departure.lateStores }, { on := 6, ground := Ground.textOnly Departure.lateStores }, { on := 7, ground := Ground.textOnly Departure.lateStores }, { on := 8, ground := Ground.textOnly Departure.lateStores }, { on := 9, ground := Ground.textOnly Departure.lateStoresUnsure }, { on := 10, ground := Ground.phase }, { on := 11, ground := Ground.phase }], guard := none }) rfl (fun K hK => ?_) AllReadyH.nil
        go_simp
        rw [stP_run (P := Tryd.prog) HSI.out.wr1]
        replace HSI := Lib.hid (HSI.out.put1 (dF p a))
        clear hHeld
        go_simp
        refine hK.out _ _ HSI.out.cell (fun hHeld => ?_)
        clear hK K hHeld
        obtain ⟨W4, hW4⟩ : ∃ Wn, Wn = stP (W2) b7 (dF p a) := ⟨_, rfl⟩
        rw [← hW4] at HSI ⊢
        clear hW4
        have hHeld := HSI.out.cell
        try simp only [Act.put]
        refine wpAnyH_ready (rs := [13]) (by kernel_rfl) (by simp) ?_
        refine AllReadyH.cons (o := { dst := none, op := Op.store 89 (Operand.tmp 8) (Operand.tmp 19), type := 0, pos := "field.go:131", after := #[{ on := 11, ground := Ground.data }, { on := 9, ground := Ground.data }, { on := 12, ground := Ground.chain }, { on := 0, ground := Ground.phase }, { on := 1, ground := Ground.phase }, { on := 2, ground := Ground.phase }, { on := 3, ground := Ground.phase }, { on := 4, ground := Ground.phase }, { on := 5, ground := Ground.phase }, { on := 6, ground := Ground.phase }, { on := 7, ground := Ground.phase }, { on := 8, ground := Ground.phase }, { on := 9, ground := Ground.phase }, { on := 10, ground := Ground.phase }, { on := 11, ground := Ground.phase }, { on := 12, ground := Ground.phase }], guard := none }) rfl (fun K hK => ?_) AllReadyH.nil
        go_simp
        rw [stP_run (P := Tryd.prog) HSI.out.wr2]
        replace HSI := Lib.hid (HSI.out.put2 (dF p b))
        clear hHeld
        go_simp
        refine hK.out _ _ HSI.out.cell (fun hHeld => ?_)
        clear hK K hHeld
        obtain ⟨W4, hW4⟩ : ∃ Wn, Wn = stP (W4) b8 (dF p b) := ⟨_, rfl⟩
        rw [← hW4] at HSI ⊢
        clear hW4
        have hHeld := HSI.out.cell
        try simp only [Act.put]
        refine wpAnyH_done (by kernel_rfl) ?_ _
        refine NoPanic.normal ?_
        go_wp2_with fail
        go_meet
        exact ⟨b7, b8, rfl, rfl, HSI.out.two⟩
      refine AllReadyH.cons (o := { dst := some 8, op := Op.alloc 89, type := 0, pos := "field.go:131", after := #[], guard := none }) rfl (fun K hK => ?_) AllReadyH.nil
      go_simp
      replace HSI := Lib.hid (HSI.out.make2 89)
      clear hHeld
      refine hK.out _ _ HSI.out.cell (fun hHeld => ?_)
      clear hK K hHeld
      obtain ⟨b8, hbk⟩ : ∃ b, b = (W3).heap.size := ⟨_, rfl⟩
      obtain ⟨W3, hW3⟩ : ∃ Wn, Wn = (W3).alloc (.cells polyZ 89) := ⟨_, rfl⟩
      rw [← hW3] at HSI ⊢
      rw [← hbk] at HSI ⊢
      clear hW3 hbk
      have hHeld := HSI.out.cell
      try simp only [Act.put, List.setIfInBounds_toArray, List.set_cons_zero, List.set_cons_succ]
      refine wpAnyH_ready (rs := [4]) (by kernel_rfl) (by simp) ?_
      refine AllReadyH.cons (o := { dst := some 14, op := Op.call { callee := Callee.value (Operand.func 68), args := #[Operand.tmp 12, Operand.tmp 13], argTypes := #[3, 3] }, type := 89, pos := "field.go:131", after := #[{ on := 2, ground := Ground.data }, { on := 3, ground := Ground.data }], guard := none }) rfl (fun K hK => ?_) AllReadyH.nil
      go_simp
      refine (HD1.out _).mono ?_
      rintro e W2 ⟨rfl, hbl⟩
      replace HSI := Lib.hid (HSI.out.call hbl)
      clear hbl hHeld
      go_simp
      refine hK.out _ _ HSI.out.cell (fun hHeld => ?_)
      clear hK K
      try simp only [Act.put, List.setIfInBounds_toArray, List.set_cons_zero, List.set_cons_succ]
      refine wpAnyH_ready (rs := [9]) (by kernel_rfl) (by simp) ?_
      refine AllReadyH.cons (o := { dst := some 19, op := Op.call { callee := Callee.value (Operand.func 68), args := #[Operand.tmp 17, Operand.tmp 18], argTypes := #[3, 3] }, type := 89, pos := "field.go:131", after := #[{ on := 7, ground := Ground.data }, { on := 8, ground := Ground.data }, { on := 4, ground := Ground.chain }], guard := none }) rfl (fun K hK => ?_) AllReadyH.nil
      go_simp
      refine (HD2.out _).mono ?_
      rintro e W2 ⟨rfl, hbl⟩
      replace HSI := Lib.hid (HSI.out.call hbl)
      clear hbl hHeld
      go_simp
      refine hK.out _ _ HSI.out.cell (fun hHeld => ?_)
      clear hK K
      try simp only [Act.put, List.setIfInBounds_toArray, List.set_cons_zero, List.set_cons_succ]
      refine wpAnyH_ready (rs := [12]) (by kernel_rfl) (by simp) ?_
      refine AllReadyH.cons (o := { dst := none, op := Op.store 89 (Operand.tmp 7) (Operand.tmp 14), type := 0, pos := "field.go:131", after := #[{ on := 10, ground := Ground.data }, { on := 4, ground := Ground.data }, { on := 9, ground := Ground.chain }, { on := 0, ground := Ground.phase }, { on := 1, ground := Ground.phase }, { on := 2, ground := Ground.phase }, { on := 3, ground := Ground.phase }, { on := 4, ground := Ground.phase }, { on := 5, ground := Ground.textOnly Departure.lateStores }, { on := 6, ground := Ground.textOnly Departure.lateStores }, { on := 7, ground := Ground.textOnly Departure.lateStores }, { on := 8, ground := Ground.textOnly Departure.lateStores }, { on := 9, ground := Ground.textOnly Departure.lateStoresUnsure }, { on := 10, ground := Ground.phase }, { on := 11, ground := Ground.phase }], guard := none }) rfl (fun K hK => ?_) AllReadyH.nil
      go_simp
      rw [stP_run (P := Tryd.prog) HSI.out.wr1]
      replace HSI := Lib.hid (HSI.out.put1 (dF p a))
      clear hHeld
      go_simp
      refine hK.out _ _ HSI.out.cell (fun hHeld => ?_)
      clear hK K hHeld
      obtain ⟨W4, hW4⟩ : ∃ Wn, Wn = stP (W2) b7 (dF p a) := ⟨_, rfl⟩
      rw [← hW4] at HSI ⊢
      clear hW4
      have hHeld := HSI.out.cell
      try simp only [Act.put]
      refine wpAnyH_ready (rs := [13]) (by kernel_rfl) (by simp) ?_
      refine AllReadyH.cons (o := { dst := none, op := Op.store 89 (Operand.tmp 8) (Operand.tmp 19), type := 0, pos := "field.go:131", after := #[{ on := 11, ground := Ground.data }, { on := 9, ground := Ground.data }, { on := 12, ground := Ground.chain }, { on := 0, ground := Ground.phase }, { on := 1, ground := Ground.phase }, { on := 2, ground := Ground.phase }, { on := 3, ground := Ground.phase }, { on := 4, ground := Ground.phase }, { on := 5, ground := Ground.phase }, { on := 6, ground := Ground.phase }, { on := 7, ground := Ground.phase }, { on := 8, ground := Ground.phase }, { on := 9, ground := Ground.phase }, { on := 10, ground := Ground.phase }, { on := 11, ground := Ground.phase }, { on := 12, ground := Ground.phase }], guard := none }) rfl (fun K hK => ?_) AllReadyH.nil
      go_simp
      rw [stP_run (P := Tryd.prog) HSI.out.wr2]
      replace HSI := Lib.hid (HSI.out.put2 (dF p b))
      clear hHeld
      go_simp
      refine hK.out _ _ HSI.out.cell (fun hHeld => ?_)
      clear hK K hHeld
      obtain ⟨W4, hW4⟩ : ∃ Wn, Wn = stP (W4) b8 (dF p b) := ⟨_, rfl⟩
      rw [← hW4] at HSI ⊢
      clear hW4
      have hHeld := HSI.out.cell
      try simp only [Act.put]
      refine wpAnyH_done (by kernel_rfl) ?_ _
      refine NoPanic.normal ?_
      go_wp2_with fail
      go_meet
      exact ⟨b7, b8, rfl, rfl, HSI.out.two⟩
    refine AllReadyH.cons (o := { dst := some 8, op := Op.alloc 89, type := 0, pos := "field.go:131", after := #[], guard := none }) rfl (fun K hK => ?_) AllReadyH.nil
    go_simp
    replace HSI := Lib.hid (HSI.out.make2 89)
    clear hHeld
    refine hK.out _ _ HSI.out.cell (fun hHeld => ?_)
    clear hK K hHeld
    obtain ⟨b8, hbk⟩ : ∃ b, b = (W).heap.size := ⟨_, rfl⟩
    obtain ⟨W3, hW3⟩ : ∃ Wn, Wn = (W).alloc (.cells polyZ 89) := ⟨_, rfl⟩
    rw [← hW3] at HSI ⊢
    rw [← hbk] at HSI ⊢
    clear hW3 hbk
    have hHeld := HSI.out.cell
    try simp only [Act.put, List.setIfInBounds_toArray, List.set_cons_zero, List.set_cons_succ]
    refine wpAnyH_ready (rs := [4, 10]) (by kernel_rfl) (by simp) ?_
    refine AllReadyH.cons (o := { dst := some 14, op := Op.call { callee := Callee.value (Operand.func 68), args := #[Operand.tmp 12, Operand.tmp 13], argTypes := #[3, 3] }, type := 89, pos := "field.go:131", after := #[{ on := 2, ground := Ground.data }, { on := 3, ground := Ground.data }], guard := none }) rfl (fun K hK => ?_) ?_
    · go_simp
      refine (HD1.out _).mono ?_
      rintro e W2 ⟨rfl, hbl⟩
      replace HSI := Lib.hid (HSI.out.call hbl)
      clear hbl hHeld
      go_simp
      refine hK.out _ _ HSI.out.cell (fun hHeld => ?_)
      clear hK K
      try simp only [Act.put, List.setIfInBounds_toArray, List.set_cons_zero, List.set_cons_succ]
      refine wpAnyH_ready (rs := [9, 10]) (by kernel_rfl) (by simp) ?_
      refine AllReadyH.cons (o := { dst := some 19, op := Op.call { callee := Callee.value (Operand.func 68), args := #[Operand.tmp 17, Operand.tmp 18], argTypes := #[3, 3] }, type := 89, pos := "field.go:131", after := #[{ on := 7, ground := Ground.data }, { on := 8, ground := Ground.data }, { on := 4, ground := Ground.chain }], guard := none }) rfl (fun K hK => ?_) ?_
      · go_simp
        refine (HD2.out _).mono ?_
        rintro e W2 ⟨rfl, hbl⟩
        replace HSI := Lib.hid (HSI.out.call hbl)
        clear hbl hHeld
        go_simp
        refine hK.out _ _ HSI.out.cell (fun hHeld => ?_)
        clear hK K
        try simp only [Act.put, List.setIfInBounds_toArray, List.set_cons_zero, List.set_cons_succ]
        refine wpAnyH_ready (rs := [10]) (by kernel_rfl) (by simp) ?_
        refine AllReadyH.cons (o := { dst := some 7, op := Op.alloc 89, type := 0, pos := "field.go:131", after := #[], guard := none }) rfl (fun K hK => ?_) AllReadyH.nil
        go_simp
        replace HSI := Lib.hid (HSI.out.make1 89)
        clear hHeld
        refine hK.out _ _ HSI.out.cell (fun hHeld => ?_)
        clear hK K hHeld
        obtain ⟨b7, hbk⟩ : ∃ b, b = (W2).heap.size := ⟨_, rfl⟩
        obtain ⟨W3, hW3⟩ : ∃ Wn, Wn = (W2).alloc (.cells polyZ 89) := ⟨_, rfl⟩
        rw [← hW3] at HSI ⊢
        rw [← hbk] at HSI ⊢
        clear hW3 hbk
        have hHeld := HSI.out.cell
        try simp only [Act.put, List.setIfInBounds_toArray, List.set_cons_zero, List.set_cons_succ]
        refine wpAnyH_ready (rs := [12]) (by kernel_rfl) (by simp) ?_
        refine AllReadyH.cons (o := { dst := none, op := Op.store 89 (Operand.tmp 7) (Operand.tmp 14), type := 0, pos := "field.go:131", after := #[{ on := 10, ground := Ground.data }, { on := 4, ground := Ground.data }, { on := 9, ground := Ground.chain }, { on := 0, ground := Ground.phase }, { on := 1, ground := Ground.phase }, { on := 2, ground := Ground.phase }, { on := 3, ground := Ground.phase }, { on := 4, ground := Ground.phase }, { on := 5, ground := Ground.textOnly Departure.lateStores }, { on := 6, ground := Ground.textOnly Departure.lateStores }, { on := 7, ground := Ground.textOnly Departure.lateStores }, { on := 8, ground := Ground.textOnly Departure.lateStores }, { on := 9, ground := Ground.textOnly Departure.lateStoresUnsure }, { on := 10, ground := Ground.phase }, { on := 11, ground := Ground.phase }], guard := none }) rfl (fun K hK => ?_) AllReadyH.nil
        go_simp
        rw [stP_run (P := Tryd.prog) HSI.out.wr1]
        replace HSI := Lib.hid (HSI.out.put1 (dF p a))
        clear hHeld
        go_simp
        refine hK.out _ _ HSI.out.cell (fun hHeld => ?_)
        clear hK K hHeld
        obtain ⟨W4, hW4⟩ : ∃ Wn, Wn = stP (W3) b7 (dF p a) := ⟨_, rfl⟩
        rw [← hW4] at HSI ⊢
        clear hW4
        have hHeld := HSI.out.cell
        try simp only [Act.put]
        refine wpAnyH_ready (rs := [13]) (by kernel_rfl) (by simp) ?_
        refine AllReadyH.cons (o := { dst := none, op := Op.store 89 (Operand.tmp 8) (Operand.tmp 19), type := 0, pos := "field.go:131", after := #[{ on := 11, ground := Ground.data }, { on := 9, ground := Ground.data }, { on := 12, ground := Ground.chain }, { on := 0, ground := Ground.phase }, { on := 1, ground := Ground.phase }, { on := 2, ground := Ground.phase }, { on := 3, ground := Ground.phase }, { on := 4, ground := Ground.phase }, { on := 5, ground := Ground.phase }, { on := 6, ground := Ground.phase }, { on := 7, ground := Ground.phase }, { on := 8, ground := Ground.phase }, { on := 9, ground := Ground.phase }, { on := 10, ground := Ground.phase }, { on := 11, ground := Ground.phase }, { on := 12, ground := Ground.phase }], guard := none }) rfl (fun K hK => ?_) AllReadyH.nil
        go_simp
        rw [stP_run (P := Tryd.prog) HSI.out.wr2]
        replace HSI := Lib.hid (HSI.out.put2 (dF p b))
        clear hHeld
        go_simp
        refine hK.out _ _ HSI.out.cell (fun hHeld => ?_)
        clear hK K hHeld
        obtain ⟨W4, hW4⟩ : ∃ Wn, Wn = stP (W4) b8 (dF p b) := ⟨_, rfl⟩
        rw [← hW4] at HSI ⊢
        clear hW4
        have hHeld := HSI.out.cell
        try simp only [Act.put]
        refine wpAnyH_done (by kernel_rfl) ?_ _
        refine NoPanic.normal ?_
        go_wp2_with fail
        go_meet
        exact ⟨b7, b8, rfl, rfl, HSI.out.two⟩
      refine AllReadyH.cons (o := { dst := some 7, op := Op.alloc 89, type := 0, pos := "field.go:131", after := #[], guard := none }) rfl (fun K hK => ?_) AllReadyH.nil
      go_simp
      replace HSI := Lib.hid (HSI.out.make1 89)
      clear hHeld
      refine hK.out _ _ HSI.out.cell (fun hHeld => ?_)
      clear hK K hHeld
      obtain ⟨b7, hbk⟩ : ∃ b, b = (W2).heap.size := ⟨_, rfl⟩
      obtain ⟨W3, hW3⟩ : ∃ Wn, Wn = (W2).alloc (.cells polyZ 89) := ⟨_, rfl⟩
      rw [← hW3] at HSI ⊢
      rw [← hbk] at HSI ⊢
      clear hW3 hbk
      have hHeld := HSI.out.cell
      try simp only [Act.put, List.setIfInBounds_toArray, List.set_cons_zero, List.set_cons_succ]
      refine wpAnyH_ready (rs := [9]) (by kernel_rfl) (by simp) ?_
      refine AllReadyH.cons (o := { dst := some 19, op := Op.call { callee := Callee.value (Operand.func 68), args := #[Operand.tmp 17, Operand.tmp 18], argTypes := #[3, 3] }, type := 89, pos := "field.go:131", after := #[{ on := 7, ground := Ground.data }, { on := 8, ground := Ground.data }, { on := 4, ground := Ground.chain }], guard := none }) rfl (fun K hK => ?_) AllReadyH.nil
      go_simp
      refine (HD2.out _).mono ?_
      rintro e W2 ⟨rfl, hbl⟩
      replace HSI := Lib.hid (HSI.out.call hbl)
      clear hbl hHeld
      go_simp
      refine hK.out _ _ HSI.out.cell (fun hHeld => ?_)
      clear hK K
      try simp only [Act.put, List.setIfInBounds_toArray, List.set_cons_zero, List.set_cons_succ]
      refine wpAnyH_ready (rs := [12]) (by kernel_rfl) (by simp) ?_
      refine AllReadyH.cons (o := { dst := none, op := Op.store 89 (Operand.tmp 7) (Operand.tmp 14), type := 0, pos := "field.go:131", after := #[{ on := 10, ground := Ground.data }, { on := 4, ground := Ground.data }, { on := 9, ground := Ground.chain }, { on := 0, ground := Ground.phase }, { on := 1, ground := Ground.phase }, { on := 2, ground := Ground.phase }, { on := 3, ground := Ground.phase }, { on := 4, ground := Ground.phase }, { on := 5, ground := Ground.textOnly Departure.lateStores }, { on := 6, ground := Ground.textOnly Departure.lateStores }, { on := 7, ground := Ground.textOnly Departure.lateStores }, { on := 8, ground := Ground.textOnly Departure.lateStores }, { on := 9, ground := Ground.textOnly Departure.lateStoresUnsure }, { on := 10, ground := Ground.phase }, { on := 11, ground := Ground.phase }], guard := none }) rfl (fun K hK => ?_) AllReadyH.nil
      go_simp
      rw [stP_run (P := Tryd.prog) HSI.out.wr1]
      replace HSI := Lib.hid (HSI.out.put1 (dF p a))
      clear hHeld
      go_simp
      refine hK.out _ _ HSI.out.cell (fun hHeld => ?_)
      clear hK K hHeld
      obtain ⟨W4, hW4⟩ : ∃ Wn, Wn = stP (W2) b7 (dF p a) := ⟨_, rfl⟩
      rw [← hW4] at HSI ⊢
      clear hW4
      have hHeld := HSI.out.cell
      try simp only [Act.put]
      refine wpAnyH_ready (rs := [13]) (by kernel_rfl) (by simp) ?_
      refine AllReadyH.cons (o := { dst := none, op := Op.store 89 (Operand.tmp 8) (Operand.tmp 19), type := 0, pos := "field.go:131", after := #[{ on := 11, ground := Ground.data }, { on := 9, ground := Ground.data }, { on := 12, ground := Ground.chain }, { on := 0, ground := Ground.phase }, { on := 1, ground := Ground.phase }, { on := 2, ground := Ground.phase }, { on := 3, ground := Ground.phase }, { on := 4, ground := Ground.phase }, { on := 5, ground := Ground.phase }, { on := 6, ground := Ground.phase }, { on := 7, ground := Ground.phase }, { on := 8, ground := Ground.phase }, { on := 9, ground := Ground.phase }, { on := 10, ground := Ground.phase }, { on := 11, ground := Ground.phase }, { on := 12, ground := Ground.phase }], guard := none }) rfl (fun K hK => ?_) AllReadyH.nil
      go_simp
      rw [stP_run (P := Tryd.prog) HSI.out.wr2]
      replace HSI := Lib.hid (HSI.out.put2 (dF p b))
      clear hHeld
      go_simp
      refine hK.out _ _ HSI.out.cell (fun hHeld => ?_)
      clear hK K hHeld
      obtain ⟨W4, hW4⟩ : ∃ Wn, Wn = stP (W4) b8 (dF p b) := ⟨_, rfl⟩
      rw [← hW4] at HSI ⊢
      clear hW4
      have hHeld := HSI.out.cell
      try simp only [Act.put]
      refine wpAnyH_done (by kernel_rfl) ?_ _
      refine NoPanic.normal ?_
      go_wp2_with fail
      go_meet
      exact ⟨b7, b8, rfl, rfl, HSI.out.two⟩
    refine AllReadyH.cons (o := { dst := some 7, op := Op.alloc 89, type := 0, pos := "field.go:131", after := #[], guard := none }) rfl (fun K hK => ?_) AllReadyH.nil
    go_simp
    replace HSI := Lib.hid (HSI.out.make1 89)
    clear hHeld
    refine hK.out _ _ HSI.out.cell (fun hHeld => ?_)
    clear hK K hHeld
    obtain ⟨b7, hbk⟩ : ∃ b, b = (W3).heap.size := ⟨_, rfl⟩
    obtain ⟨W3, hW3⟩ : ∃ Wn, Wn = (W3).alloc (.cells polyZ 89) := ⟨_, rfl⟩
    rw [← hW3] at HSI ⊢
    rw [← hbk] at HSI ⊢
    clear hW3 hbk
    have hHeld := HSI.out.cell
    try simp only [Act.put, List.setIfInBounds_toArray, List.set_cons_zero, List.set_cons_succ]
    refine wpAnyH_ready (rs := [4]) (by kernel_rfl) (by simp) ?_
    refine AllReadyH.cons (o := { dst := some 14, op := Op.call { callee := Callee.value (Operand.func 68), args := #[Operand.tmp 12, Operand.tmp 13], argTypes := #[3, 3] }, type := 89, pos := "field.go:131", after := #[{ on := 2, ground := Ground.data }, { on := 3, ground := Ground.data }], guard := none }) rfl (fun K hK => ?_) AllReadyH.nil
    go_simp
    refine (HD1.out _).mono ?_
    rintro e W2 ⟨rfl, hbl⟩
    replace HSI := Lib.hid (HSI.out.call hbl)
    clear hbl hHeld
    go_simp
    refine hK.out _ _ HSI.out.cell (fun hHeld => ?_)
    clear hK K
    try simp only [Act.put, List.setIfInBounds_toArray, List.set_cons_zero, List.set_cons_succ]
    refine wpAnyH_ready (rs := [9]) (by kernel_rfl) (by simp) ?_
    refine AllReadyH.cons (o := { dst := some 19, op := Op.call { callee := Callee.value (Operand.func 68), args := #[Operand.tmp 17, Operand.tmp 18], argTypes := #[3, 3] }, type := 89, pos := "field.go:131", after := #[{ on := 7, ground := Ground.data }, { on := 8, ground := Ground.data }, { on := 4, ground := Ground.chain }], guard := none }) rfl (fun K hK => ?_) AllReadyH.nil
    go_simp
    refine (HD2.out _).mono ?_
    rintro e W2 ⟨rfl, hbl⟩
    replace HSI := Lib.hid (HSI.out.call hbl)
    clear hbl hHeld
    go_simp
    refine hK.out _ _ HSI.out.cell (fun hHeld => ?_)
    clear hK K
    try simp only [Act.put, List.setIfInBounds_toArray, List.set_cons_zero, List.set_cons_succ]
    refine wpAnyH_ready (rs := [12]) (by kernel_rfl) (by simp) ?_
    refine AllReadyH.cons (o := { dst := none, op := Op.store 89 (Operand.tmp 7) (Operand.tmp 14), type := 0, pos := "field.go:131", after := #[{ on := 10, ground := Ground.data }, { on := 4, ground := Ground.data }, { on := 9, ground := Ground.chain }, { on := 0, ground := Ground.phase }, { on := 1, ground := Ground.phase }, { on := 2, ground := Ground.phase }, { on := 3, ground := Ground.phase }, { on := 4, ground := Ground.phase }, { on := 5, ground := Ground.textOnly Departure.lateStores }, { on := 6, ground := Ground.textOnly Departure.lateStores }, { on := 7, ground := Ground.textOnly Departure.lateStores }, { on := 8, ground := Ground.textOnly Departure.lateStores }, { on := 9, ground := Ground.textOnly Departure.lateStoresUnsure }, { on := 10, ground := Ground.phase }, { on := 11, ground := Ground.phase }], guard := none }) rfl (fun K hK => ?_) AllReadyH.nil
    go_simp
    rw [stP_run (P := Tryd.prog) HSI.out.wr1]
    replace HSI := Lib.hid (HSI.out.put1 (dF p a))
    clear hHeld
    go_simp
    refine hK.out _ _ HSI.out.cell (fun hHeld => ?_)
    clear hK K hHeld
    obtain ⟨W4, hW4⟩ : ∃ Wn, Wn = stP (W2) b7 (dF p a) := ⟨_, rfl⟩
    rw [← hW4] at HSI ⊢
    clear hW4
    have hHeld := HSI.out.cell
    try simp only [Act.put]
    refine wpAnyH_ready (rs := [13]) (by kernel_rfl) (by simp) ?_
    refine AllReadyH.cons (o := { dst := none, op := Op.store 89 (Operand.tmp 8) (Operand.tmp 19), type := 0, pos := "field.go:131", after := #[{ on := 11, ground := Ground.data }, { on := 9, ground := Ground.data }, { on := 12, ground := Ground.chain }, { on := 0, ground := Ground.phase }, { on := 1, ground := Ground.phase }, { on := 2, ground := Ground.phase }, { on := 3, ground := Ground.phase }, { on := 4, ground := Ground.phase }, { on := 5, ground := Ground.phase }, { on := 6, ground := Ground.phase }, { on := 7, ground := Ground.phase }, { on := 8, ground := Ground.phase }, { on := 9, ground := Ground.phase }, { on := 10, ground := Ground.phase }, { on := 11, ground := Ground.phase }, { on := 12, ground := Ground.phase }], guard := none }) rfl (fun K hK => ?_) AllReadyH.nil
    go_simp
    rw [stP_run (P := Tryd.prog) HSI.out.wr2]
    replace HSI := Lib.hid (HSI.out.put2 (dF p b))
    clear hHeld
    go_simp
    refine hK.out _ _ HSI.out.cell (fun hHeld => ?_)
    clear hK K hHeld
    obtain ⟨W4, hW4⟩ : ∃ Wn, Wn = stP (W4) b8 (dF p b) := ⟨_, rfl⟩
    rw [← hW4] at HSI ⊢
    clear hW4
    have hHeld := HSI.out.cell
    try simp only [Act.put]
    refine wpAnyH_done (by kernel_rfl) ?_ _
    refine NoPanic.normal ?_
    go_wp2_with fail
    go_meet
    exact ⟨b7, b8, rfl, rfl, HSI.out.two⟩
  case rest =>
    obtain ⟨b7, b8, rfl, rfl, hT⟩ := hcut
    have HT := Lib.hid hT
    have hp0 : ¬ p = 0 := by omega
    clear hT HSI HD1 HD2 hW
    go_wp2_with fail
    go_loopw [9, 20] (fun _ u wr => ∃ i : Nat, i ≤ 7 ∧ u = .int .i64 i ∧ TwoRel w wr p d q (.slice sa sl sc) b7 b8 (adF p (dF p a) (dF p b) i) (dF p b)) (fun _ u _ => 7 - (intOf u).toNat)
    case atStart => exact ⟨0, by omega, rfl, HT.out.congr fun j _ => by unfold adF; rw [if_neg (by omega)]⟩
    case round =>
      clear HT
      obtain ⟨i, hi, rfl, hR⟩ := hrel
      have HR := Lib.hid hR; clear hR
      obtain ⟨r0, r1, r2, r3⟩ := HR.out.room
      by_cases hlt : i < 7
      · obtain ⟨c1, c2⟩ := HR.out.px.old hlt
        have c3 := (HR.out.py.old hlt).1
        have hx : dF p a i < p := dF_lt (by omega)
        have hy : dF p b i < p := dF_lt (by omega)
        obtain ⟨v1, v2⟩ := sum_vals hp2 hx hy
        have e1 : adF p (dF p a) (dF p b) i i = dF p a i := by unfold adF; rw [if_neg (by omega)]
        rw [e1] at c1
        have HSR : Hid (((dF p a i + dF p b i : Nat) : Int) % (p : Int) = (((dF p a i + dF p b i) % p : Nat) : Int)) := (Int.natCast_emod _ _).symm
        have HPut : Hid (TwoRel w (wr.setCell ⟨b7, i, none⟩ (.int .i64 (((dF p a i + dF p b i : Nat) : Int) % (p : Int)))).drew p d q (.slice sa sl sc) b7 b8 (adF p (dF p a) (dF p b) (i + 1)) (dF p b)) := by
          show TwoRel _ _ _ _ _ _ _ _ _ _
          rw [HSR.out]
          exact TwoRel.step ((HR.out.put hlt _).congr fun j _ => adF_next p (dF p a) (dF p b) i j) (below_D _ 1)
        have hi7 : (i : Int) < 7 := by omega
        clear e1 HSR
        have hs : dF p a i + dF p b i ≤ 128 := by omega
        generalize dF p a i + dF p b i = S at *
        generalize dF p a i = A at *
        generalize dF p b i = B at *
        go_wp2_with fail
        go_region
        all_goals
          clear v1 v2 c1 c2 c3 r0 r1 r2 r3
          go_wp2_with fail
          go_roundw
          case rel => exact ⟨i + 1, by omega, by go_num, HPut.out⟩
          case measure => simp [intOf]; omega
      · obtain rfl : i = 7 := by omega
        have hpx : PolyAt wr b7 (fun j => (dF p a j + dF p b j) % p) := PolyAt.congr HR.out.px fun j hj => by unfold adF; rw [if_pos hj]
        have HPX := Lib.hid hpx
        have HNum := Lib.hid (number_any p d q (.slice sa sl sc) (fun j => (dF p a j + dF p b j) % p) wr hp hp2 hd1 hd hq (fun j => Nat.mod_lt _ (by omega)) ⟨_, _, _, rfl⟩)
        unfold roomV fV at HNum
        clear hpx
        go_wp2_with (first | (with_reducible refine wpList_load_tab rfl 89 _ rfl _ rfl HPX.out Tryd.underlying89 rfl (by kernel_rfl) ?_) | (go_at_call 70; refine (HNum.out).mono ?_; rintro e w2 ⟨rfl, hb2⟩; have HB2 := Lib.hid hb2; clear hb2))
        go_ret
        exact ⟨rfl, belowTrans HR.out.bel HB2.out⟩
end Go.Proofs.YtdbfpdhcaiiiaaaDoor
