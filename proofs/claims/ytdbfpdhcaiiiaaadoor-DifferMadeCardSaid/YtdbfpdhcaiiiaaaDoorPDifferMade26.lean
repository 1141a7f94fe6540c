/-
  Contract: the method mul of a field's room. No condition. (The statement that makes two polynomials: every order, printed by gentwo.py.)
-/
import Derived.Test.YtdbfpdhcaiiiaaaDoorPDifferMade22
namespace Go.Proofs.YtdbfpdhcaiiiaaaDoor
open Go.RowKit

set_option maxRecDepth 100000 in
set_option maxHeartbeats 6000000 in
theorem mul_any (p d q : Nat) (v : Value) (low : List Int) (a b : Nat) (w : World) (hI : IntsAt w v low) (hF : IsField p d low) (ha : a < 64) (hb : b < 64) :
    Calls Tryd.prog 49 #[roomV p d v q, .int .i64 a, .int .i64 b] w fun e w' => e = .returned (.int .i64 (mulV p d (lF low) a b : Nat)) ∧ Below w.heap.size w w' := by
  obtain ⟨sa, sc, rfl, _⟩ := id hI
  have hp := hF.p2; have hp61 := hF.p61; have hd1 := hF.d1; have hd6 := hF.d6
  have HI := Lib.hid hI; have HF := Lib.hid hF
  have HSI := Lib.hid (SI.begin w p d q (.slice sa low.length sc) 72)
  have HD1 := Lib.hid (fun W => digits_any p a W hp (by omega) ha)
  have HD2 := Lib.hid (fun W => digits_any p b W hp (by omega) hb)
  obtain ⟨W, hW⟩ : ∃ W, W = (w.alloc (.cells #[.int .i64 (p : Int), .int .i64 (d : Int), .slice sa low.length sc, .int .i64 (q : Int)] 72)).drew := ⟨_, rfl⟩
  rw [← hW] at HSI
  clear hI hF
  unfold roomV
  unfold fV at HD1 HD2
  go_enter Tryd.func49, Tryd.ntmps49
  go_upto_region 1 with fail
  go_cut [7, 8] (fun s7 s8 wx => ∃ b7 b8 : Nat, s7 = .pointer (some ⟨b7, 0, none⟩) ∧ s8 = .pointer (some ⟨b8, 0, none⟩) ∧ TwoRel w wx p d q (.slice sa low.length sc) b7 b8 (dF p a) (dF p b))
  case first =>
    refine wp_region_noPanic ?_
    refine wp_region_held_drew (S := fun w' => w'.cell? ⟨w.heap.size, 0, none⟩ = some (.int .i64 (p : Int))) (by kernel_rfl) (by rw [← hW]; exact HSI.out.cell) (fun hHeld => ?_)
    rw [← hW]
    clear hHeld hW
    have hHeld := HSI.out.cell
    refine wpAnyH_take (i := 0) (oi := { dst := some 12, op := Op.fieldAddr 72 (Operand.tmp 3) 0, type := 0, pos := "field.go:152", after := #[], guard := none }) (v := ?_) rfl (by kernel_rfl) (by kernel_rfl) (by kernel_rfl) (fun _ _ _ h => h) (Or.inl ⟨by rfl, ?_⟩) (by assumption) ?_
    rotate_left
    · intro w hSw
      (try dsimp only at hSw)
      go_simp
      with_reducible rfl
    try simp only [Act.put, List.setIfInBounds_toArray, List.set_cons_zero, List.set_cons_succ]
    refine wpAnyH_take (i := 1) (oi := { dst := some 13, op := Op.fieldAddr 24 (Operand.tmp 12) 0, type := 0, pos := "field.go:152", after := #[{ on := 0, ground := Ground.data }], guard := none }) (v := ?_) rfl (by kernel_rfl) (by kernel_rfl) (by kernel_rfl) (fun _ _ _ h => h) (Or.inl ⟨by rfl, ?_⟩) (by assumption) ?_
    rotate_left
    · intro w hSw
      (try dsimp only at hSw)
      go_simp
      with_reducible rfl
    try simp only [Act.put, List.setIfInBounds_toArray, List.set_cons_zero, List.set_cons_succ]
    refine wpAnyH_take (i := 2) (oi := { dst := some 14, op := Op.load 3 (Operand.tmp 13), type := 3, pos := "field.go:152", after := #[{ on := 1, ground := Ground.data }], guard := none }) (v := ?_) rfl (by kernel_rfl) (by kernel_rfl) (by kernel_rfl) (fun _ _ _ h => h) (Or.inl ⟨by rfl, ?_⟩) (by assumption) ?_
    rotate_left
    · intro w hSw
      (try dsimp only at hSw)
      go_simp
      with_reducible rfl
    try simp only [Act.put, List.setIfInBounds_toArray, List.set_cons_zero, List.set_cons_succ]
    refine wpAnyH_take (i := 3) (oi := { dst := some 15, op := Op.move (Operand.tmp 1), type := 3, pos := "field.go:152", after := #[], guard := none }) (v := ?_) rfl (by kernel_rfl) (by kernel_rfl) (by kernel_rfl) (fun _ _ _ h => h) (Or.inl ⟨by rfl, ?_⟩) (by assumption) ?_
    rotate_left
    · intro w hSw
      (try dsimp only at hSw)
      go_simp
      with_reducible rfl
    try simp only [Act.put, List.setIfInBounds_toArray, List.set_cons_zero, List.set_cons_succ]
    refine wpAnyH_take (i := 5) (oi := { dst := some 17, op := Op.fieldAddr 72 (Operand.tmp 3) 0, type := 0, pos := "field.go:152", after := #[], guard := none }) (v := ?_) rfl (by kernel_rfl) (by kernel_rfl) (by kernel_rfl) (fun _ _ _ h => h) (Or.inl ⟨by rfl, ?_⟩) (by assumption) ?_
    rotate_left
    · intro w hSw
      (try dsimp only at hSw)
      go_simp
      with_reducible rfl
    try simp only [Act.put, List.setIfInBounds_toArray, List.set_cons_zero, List.set_cons_succ]
    refine wpAnyH_take (i := 6) (oi := { dst := some 18, op := Op.fieldAddr 24 (Operand.tmp 17) 0, type := 0, pos := "field.go:152", after := #[{ on := 5, ground := Ground.data }], guard := none }) (v := ?_) rfl (by kernel_rfl) (by kernel_rfl) (by kernel_rfl) (fun _ _ _ h => h) (Or.inl ⟨by rfl, ?_⟩) (by assumption) ?_
    rotate_left
    · intro w hSw
      (try dsimp only at hSw)
      go_simp
      with_reducible rfl
    try simp only [Act.put, List.setIfInBounds_toArray, List.set_cons_zero, List.set_cons_succ]
    refine wpAnyH_take (i := 7) (oi := { dst := some 19, op := Op.load 3 (Operand.tmp 18), type := 3, pos := "field.go:152", after := #[{ on := 6, ground := Ground.data }], guard := none }) (v := ?_) rfl (by kernel_rfl) (by kernel_rfl) (by kernel_rfl) (fun _ _ _ h => h) (Or.inl ⟨by rfl, ?_⟩) (by assumption) ?_
    rotate_left
    · intro w hSw
      (try dsimp only at hSw)
      go_simp
      with_reducible rfl
    try simp only [Act.put, List.setIfInBounds_toArray, List.set_cons_zero, List.set_cons_succ]
    refine wpAnyH_take (i := 8) (oi := { dst := some 20, op := Op.move (Operand.tmp 2), type := 3, pos := "field.go:152", after := #[], guard := none }) (v := ?_) rfl (by kernel_rfl) (by kernel_rfl) (by kernel_rfl) (fun _ _ _ h => h) (Or.inl ⟨by rfl, ?_⟩) (by assumption) ?_
    rotate_left
    · intro w hSw
      (try dsimp only at hSw)
      go_simp
      with_reducible rfl
    try simp only [Act.put, List.setIfInBounds_toArray, List.set_cons_zero, List.set_cons_succ]
    refine wpAnyH_ready (rs := [4, 10, 11]) (by kernel_rfl) (by simp) ?_
    refine AllReadyH.cons (o := { dst := some 16, op := Op.call { callee := Callee.value (Operand.func 68), args := #[Operand.tmp 14, Operand.tmp 15], argTypes := #[3, 3] }, type := 89, pos := "field.go:152", after := #[{ on := 2, ground := Ground.data }, { on := 3, ground := Ground.data }], guard := none }) rfl (fun K hK => ?_) ?_
    · go_simp
      refine (HD1.out _).mono ?_
      rintro e W2 ⟨rfl, hbl⟩
      replace HSI := Lib.hid (HSI.out.call hbl)
      clear hbl hHeld
      go_simp
      refine hK.out _ _ HSI.out.cell (fun hHeld => ?_)
      clear hK K
      try simp only [Act.put, List.setIfInBounds_toArray, List.set_cons_zero, List.set_cons_succ]
      refine wpAnyH_ready (rs := [9, 10, 11]) (by kernel_rfl) (by simp) ?_
      refine AllReadyH.cons (o := { dst := some 21, op := Op.call { callee := Callee.value (Operand.func 68), args := #[Operand.tmp 19, Operand.tmp 20], argTypes := #[3, 3] }, type := 89, pos := "field.go:152", after := #[{ on := 7, ground := Ground.data }, { on := 8, ground := Ground.data }, { on := 4, ground := Ground.chain }], guard := none }) rfl (fun K hK => ?_) ?_
      · go_simp
        refine (HD2.out _).mono ?_
        rintro e W2 ⟨rfl, hbl⟩
        replace HSI := Lib.hid (HSI.out.call hbl)
        clear hbl hHeld
        go_simp
        refine hK.out _ _ HSI.out.cell (fun hHeld => ?_)
        clear hK K
        try simp only [Act.put, List.setIfInBounds_toArray, List.set_cons_zero, List.set_cons_succ]
        refine wpAnyH_ready (rs := [10, 11]) (by kernel_rfl) (by simp) ?_
        refine AllReadyH.cons (o := { dst := some 7, op := Op.alloc 89, type := 0, pos := "field.go:152", after := #[], guard := none }) rfl (fun K hK => ?_) ?_
        · go_simp
          replace HSI := Lib.hid (HSI.out.make1 89)
          clear hHeld
          refine hK.out _ _ HSI.out.cell (fun hHeld => ?_)
          clear hK K hHeld
          obtain ⟨b7, hbk⟩ : ∃ b, b = (W2).heap.size := ⟨_, rfl⟩
          obtain ⟨W3, hW3⟩ : ∃ Wn, Wn = (W2).alloc (.cells polyZ 89) := ⟨_, rfl⟩
          rw [← hW3] at HSI ⊢
          rw [← hbk] at HSI ⊢
          clear hW3 hbk
          have hHeld := HSI.out.cell
          try simp only [Act.put, List.setIfInBounds_toArray, List.set_cons_zero, List.set_cons_succ]
          refine wpAnyH_ready (rs := [11]) (by kernel_rfl) (by simp) ?_
          refine AllReadyH.cons (o := { dst := some 8, op := Op.alloc 89, type := 0, pos := "field.go:152", after := #[], guard := none }) rfl (fun K hK => ?_) AllReadyH.nil
          go_simp
          replace HSI := Lib.hid (HSI.out.make2 89)
          clear hHeld
          refine hK.out _ _ HSI.out.cell (fun hHeld => ?_)
          clear hK K hHeld
          obtain ⟨b8, hbk⟩ : ∃ b, b = (W3).heap.size := ⟨_, rfl⟩
          obtain ⟨W3, hW3⟩ : ∃ Wn, Wn = (W3).alloc (.cells polyZ 89) := ⟨_, rfl⟩
          rw [← hW3] at HSI ⊢
          rw [← hbk] at HSI ⊢
          clear hW3 hbk
          have hHeld := HSI.out.cell
          try simp only [Act.put, List.setIfInBounds_toArray, List.set_cons_zero, List.set_cons_succ]
          refine wpAnyH_ready (rs := [12]) (by kernel_rfl) (by simp) ?_
          refine AllReadyH.cons (o := { dst := none, op := Op.store 89 (Operand.tmp 7) (Operand.tmp 16), type := 0, pos := "field.go:152", after := #[{ on := 10, ground := Ground.data }, { on := 4, ground := Ground.data }, { on := 9, ground := Ground.chain }, { on := 0, ground := Ground.phase }, { on := 1, ground := Ground.phase }, { on := 2, ground := Ground.phase }, { on := 3, ground := Ground.phase }, { on := 4, ground := Ground.phase }, { on := 5, ground := Ground.textOnly Departure.lateStores }, { on := 6, ground := Ground.textOnly Departure.lateStores }, { on := 7, ground := Ground.textOnly Departure.lateStores }, { on := 8, ground := Ground.textOnly Departure.lateStores }, { on := 9, ground := Ground.textOnly Departure.lateStoresUnsure }, { on := 10, ground := Ground.phase }, { on := 11, ground := Ground.phase }], guard := none }) rfl (fun K hK => ?_) AllReadyH.nil
          go_simp
          rw [stP_run (P := Tryd.prog) HSI.out.wr1]
          replace HSI := Lib.hid (HSI.out.put1 (dF p a))
          clear hHeld
          go_simp
          refine hK.out _ _ HSI.out.cell (fun hHeld => ?_)
          clear hK K hHeld
          obtain ⟨W4, hW4⟩ : ∃ Wn, Wn = stP (W3) b7 (dF p a) := ⟨_, rfl⟩
          rw [← hW4] at HSI ⊢
          clear hW4
          have hHeld := HSI.out.cell
          try simp only [Act.put]
          refine wpAnyH_ready (rs := [13]) (by kernel_rfl) (by simp) ?_
          refine AllReadyH.cons (o := { dst := none, op := Op.store 89 (Operand.tmp 8) (Operand.tmp 21), type := 0, pos := "field.go:152", after := #[{ on := 11, ground := Ground.data }, { on := 9, ground := Ground.data }, { on := 12, ground := Ground.chain }, { on := 0, ground := Ground.phase }, { on := 1, ground := Ground.phase }, { on := 2, ground := Ground.phase }, { on := 3, ground := Ground.phase }, { on := 4, ground := Ground.phase }, { on := 5, ground := Ground.phase }, { on := 6, ground := Ground.phase }, { on := 7, ground := Ground.phase }, { on := 8, ground := Ground.phase }, { on := 9, ground := Ground.phase }, { on := 10, ground := Ground.phase }, { on := 11, ground := Ground.phase }, { on := 12, ground := Ground.phase }], guard := none }) rfl (fun K hK => ?_) AllReadyH.nil
          go_simp
          rw [stP_run (P := Tryd.prog) HSI.out.wr2]
          replace HSI := Lib.hid (HSI.out.put2 (dF p b))
          clear hHeld
          go_simp
          refine hK.out _ _ HSI.out.cell (fun hHeld => ?_)
          clear hK K hHeld
          obtain ⟨W4, hW4⟩ : ∃ Wn, Wn = stP (W4) b8 (dF p b) := ⟨_, rfl⟩
          rw [← hW4] at HSI ⊢
          clear hW4
          have hHeld := HSI.out.cell
          try simp only [Act.put]
          refine wpAnyH_done (by kernel_rfl) ?_ _
          refine NoPanic.normal ?_
          go_wp2_with fail
          go_meet
          exact ⟨b7, b8, rfl, rfl, HSI.out.two⟩
        refine AllReadyH.cons (o := { dst := some 8, op := Op.alloc 89, type := 0, pos := "field.go:152", after := #[], guard := none }) rfl (fun K hK => ?_) AllReadyH.nil
        go_simp
        replace HSI := Lib.hid (HSI.out.make2 89)
        clear hHeld
        refine hK.out _ _ HSI.out.cell (fun hHeld => ?_)
        clear hK K hHeld
        obtain ⟨b8, hbk⟩ : ∃ b, b = (W2).heap.size := ⟨_, rfl⟩
        obtain ⟨W3, hW3⟩ : ∃ Wn, Wn = (W2).alloc (.cells polyZ 89) := ⟨_, rfl⟩
        rw [← hW3] at HSI ⊢
        rw [← hbk] at HSI ⊢
        clear hW3 hbk
        have hHeld := HSI.out.cell
        try simp only [Act.put, List.setIfInBounds_toArray, List.set_cons_zero, List.set_cons_succ]
        refine wpAnyH_ready (rs := [10]) (by kernel_rfl) (by simp) ?_
        refine AllReadyH.cons (o := { dst := some 7, op := Op.alloc 89, type := 0, pos := "field.go:152", after := #[], guard := none }) rfl (fun K hK => ?_) AllReadyH.nil
        go_simp
        replace HSI := Lib.hid (HSI.out.make1 89)
        clear hHeld
        refine hK.out _ _ HSI.out.cell (fun hHeld => ?_)
        clear hK K hHeld
        obtain ⟨b7, hbk⟩ : ∃ b, b = (W3).heap.size := ⟨_, rfl⟩
        obtain ⟨W3, hW3⟩ : ∃ Wn, Wn = (W3).alloc (.cells polyZ 89) := ⟨_, rfl⟩
        rw [← hW3] at HSI ⊢
        rw [← hbk] at HSI ⊢
        clear hW3 hbk
        have hHeld := HSI.out.cell
        try simp only [Act.put, List.setIfInBounds_toArray, List.set_cons_zero, List.set_cons_succ]
        refine wpAnyH_ready (rs := [12]) (by kernel_rfl) (by simp) ?_
        refine AllReadyH.cons (o := { dst := none, op := Op.store 89 (Operand.tmp 7) (Operand.tmp 16), type := 0, pos := "field.go:152", after := #[{ on := 10, ground := Ground.data }, { on := 4, ground := Ground.data }, { on := 9, ground := Ground.chain }, { on := 0, ground := Ground.phase }, { on := 1, ground := Ground.phase }, { on := 2, ground := Ground.phase }, { on := 3, ground := Ground.phase }, { on := 4, ground := Ground.phase }, { on := 5, ground := Ground.textOnly Departure.lateStores }, { on := 6, ground := Ground.textOnly Departure.lateStores }, { on := 7, ground := Ground.textOnly Departure.lateStores }, { on := 8, ground := Ground.textOnly Departure.lateStores }, { on := 9, ground := Ground.textOnly Departure.lateStoresUnsure }, { on := 10, ground := Ground.phase }, { on := 11, ground := Ground.phase }], guard := none }) rfl (fun K hK => ?_) AllReadyH.nil
        go_simp
        rw [stP_run (P := Tryd.prog) HSI.out.wr1]
        replace HSI := Lib.hid (HSI.out.put1 (dF p a))
        clear hHeld
        go_simp
        refine hK.out _ _ HSI.out.cell (fun hHeld => ?_)
        clear hK K hHeld
        obtain ⟨W4, hW4⟩ : ∃ Wn, Wn = stP (W3) b7 (dF p a) := ⟨_, rfl⟩
        rw [← hW4] at HSI ⊢
        clear hW4
        have hHeld := HSI.out.cell
        try simp only [Act.put]
        refine wpAnyH_ready (rs := [13]) (by kernel_rfl) (by simp) ?_
        refine AllReadyH.cons (o := { dst := none, op := Op.store 89 (Operand.tmp 8) (Operand.tmp 21), type := 0, pos := "field.go:152", after := #[{ on := 11, ground := Ground.data }, { on := 9, ground := Ground.data }, { on := 12, ground := Ground.chain }, { on := 0, ground := Ground.phase }, { on := 1, ground := Ground.phase }, { on := 2, ground := Ground.phase }, { on := 3, ground := Ground.phase }, { on := 4, ground := Ground.phase }, { on := 5, ground := Ground.phase }, { on := 6, ground := Ground.phase }, { on := 7, ground := Ground.phase }, { on := 8, ground := Ground.phase }, { on := 9, ground := Ground.phase }, { on := 10, ground := Ground.phase }, { on := 11, ground := Ground.phase }, { on := 12, ground := Ground.phase }], guard := none }) rfl (fun K hK => ?_) AllReadyH.nil
        go_simp
        rw [stP_run (P := Tryd.prog) HSI.out.wr2]
        replace HSI := Lib.hid (HSI.out.put2 (dF p b))
        clear hHeld
        go_simp
        refine hK.out _ _ HSI.out.cell (fun hHeld => ?_)
        clear hK K hHeld
        obtain ⟨W4, hW4⟩ : ∃ Wn, Wn = stP (W4) b8 (dF p b) := ⟨_, rfl⟩
        rw [← hW4] at HSI ⊢
        clear hW4
        have hHeld := HSI.out.cell
        try simp only [Act.put]
        refine wpAnyH_done (by kernel_rfl) ?_ _
        refine NoPanic.normal ?_
        go_wp2_with fail
        go_meet
        exact ⟨b7, b8, rfl, rfl, HSI.out.two⟩
      refine AllReadyH.cons (o := { dst := some 7, op := Op.alloc 89, type := 0, pos := "field.go:152", after := #[], guard := none }) rfl (fun K hK => ?_) ?_
      · go_simp
        replace HSI := Lib.hid (HSI.out.make1 89)
        clear hHeld
        refine hK.out _ _ HSI.out.cell (fun hHeld => ?_)
        clear hK K hHeld
        obtain ⟨b7, hbk⟩ : ∃ b, b = (W2).heap.size := ⟨_, rfl⟩
        obtain ⟨W3, hW3⟩ : ∃ Wn, Wn = (W2).alloc (.cells polyZ 89) := ⟨_, rfl⟩
        rw [← hW3] at HSI ⊢
        rw [← hbk] at HSI ⊢
        clear hW3 hbk
        have hHeld := HSI.out.cell
        try simp only [Act.put, List.setIfInBounds_toArray, List.set_cons_zero, List.set_cons_succ]
        refine wpAnyH_ready (rs := [9, 11]) (by kernel_rfl) (by simp) ?_
        refine AllReadyH.cons (o := { dst := some 21, op := Op.call { callee := Callee.value (Operand.func 68), args := #[Operand.tmp 19, Operand.tmp 20], argTypes := #[3, 3] }, type := 89, pos := "field.go:152", after := #[{ on := 7, ground := Ground.data }, { on := 8, ground := Ground.data }, { on := 4, ground := Ground.chain }], guard := none }) rfl (fun K hK => ?_) ?_
        · go_simp
          refine (HD2.out _).mono ?_
          rintro e W2 ⟨rfl, hbl⟩
          replace HSI := Lib.hid (HSI.out.call hbl)
          clear hbl hHeld
          go_simp
          refine hK.out _ _ HSI.out.cell (fun hHeld => ?_)
          clear hK K
          try simp only [Act.put, List.setIfInBounds_toArray, List.set_cons_zero, List.set_cons_succ]
          refine wpAnyH_ready (rs := [11]) (by kernel_rfl) (by simp) ?_
          refine AllReadyH.cons (o := { dst := some 8, op := Op.alloc 89, type := 0, pos := "field.go:152", after := #[], guard := none }) rfl (fun K hK => ?_) AllReadyH.nil
          go_simp
          replace HSI := Lib.hid (HSI.out.make2 89)
          clear hHeld
          refine hK.out _ _ HSI.out.cell (fun hHeld => ?_)
          clear hK K hHeld
          obtain ⟨b8, hbk⟩ : ∃ b, b = (W2).heap.size := ⟨_, rfl⟩
          obtain ⟨W3, hW3⟩ : ∃ Wn, Wn = (W2).alloc (.cells polyZ 89) := ⟨_, rfl⟩
          rw [← hW3] at HSI ⊢
          rw [← hbk] at HSI ⊢
          clear hW3 hbk
          have hHeld := HSI.out.cell
          try simp only [Act.put, List.setIfInBounds_toArray, List.set_cons_zero, List.set_cons_succ]
          refine wpAnyH_ready (rs := [12]) (by kernel_rfl) (by simp) ?_
          refine AllReadyH.cons (o := { dst := none, op := Op.store 89 (Operand.tmp 7) (Operand.tmp 16), type := 0, pos := "field.go:152", after := #[{ on := 10, ground := Ground.data }, { on := 4, ground := Ground.data }, { on := 9, ground := Ground.chain }, { on := 0, ground := Ground.phase }, { on := 1, ground := Ground.phase }, { on := 2, ground := Ground.phase }, { on := 3, ground := Ground.phase }, { on := 4, ground := Ground.phase }, { on := 5, ground := Ground.textOnly Departure.lateStores }, { on := 6, ground := Ground.textOnly Departure.lateStores }, { on := 7, ground := Ground.textOnly Departure.lateStores }, { on := 8, ground := Ground.textOnly Departure.lateStores }, { on := 9, ground := Ground.textOnly Departure.lateStoresUnsure }, { on := 10, ground := Ground.phase }, { on := 11, ground := Ground.phase }], guard := none }) rfl (fun K hK => ?_) AllReadyH.nil
          go_simp
          rw [stP_run (P := Tryd.prog) HSI.out.wr1]
          replace HSI := Lib.hid (HSI.out.put1 (dF p a))
          clear hHeld
          go_simp
          refine hK.out _ _ HSI.out.cell (fun hHeld => ?_)
          clear hK K hHeld
          obtain ⟨W4, hW4⟩ : ∃ Wn, Wn = stP (W3) b7 (dF p a) := ⟨_, rfl⟩
          rw [← hW4] at HSI ⊢
          clear hW4
          have hHeld := HSI.out.cell
          try simp only [Act.put]
          refine wpAnyH_ready (rs := [13]) (by kernel_rfl) (by simp) ?_
          refine AllReadyH.cons (o := { dst := none, op := Op.store 89 (Operand.tmp 8) (Operand.tmp 21), type := 0, pos := "field.go:152", after := #[{ on := 11, ground := Ground.data }, { on := 9, ground := Ground.data }, { on := 12, ground := Ground.chain }, { on := 0, ground := Ground.phase }, { on := 1, ground := Ground.phase }, { on := 2, ground := Ground.phase }, { on := 3, ground := Ground.phase }, { on := 4, ground := Ground.phase }, { on := 5, ground := Ground.phase }, { on := 6, ground := Ground.phase }, { on := 7, ground := Ground.phase }, { on := 8, ground := Ground.phase }, { on := 9, ground := Ground.phase }, { on := 10, ground := Ground.phase }, { on := 11, ground := Ground.phase }, { on := 12, ground := Ground.phase }], guard := none }) rfl (fun K hK => ?_) AllReadyH.nil
          go_simp
          rw [stP_run (P := Tryd.prog) HSI.out.wr2]
          replace HSI := Lib.hid (HSI.out.put2 (dF p b))
          clear hHeld
          go_simp
          refine hK.out _ _ HSI.out.cell (fun hHeld => ?_)
          clear hK K hHeld
          obtain ⟨W4, hW4⟩ : ∃ Wn, Wn = stP (W4) b8 (dF p b) := ⟨_, rfl⟩
          rw [← hW4] at HSI ⊢
          clear hW4
          have hHeld := HSI.out.cell
          try simp only [Act.put]
          refine wpAnyH_done (by kernel_rfl) ?_ _
          refine NoPanic.normal ?_
          go_wp2_with fail
          go_meet
          exact ⟨b7, b8, rfl, rfl, HSI.out.two⟩
        refine AllReadyH.cons (o := { dst := some 8, op := Op.alloc 89, type := 0, pos := "field.go:152", after := #[], guard := none }) rfl (fun K hK => ?_) AllReadyH.nil
        go_simp
        replace HSI := Lib.hid (HSI.out.make2 89)
        clear hHeld
        refine hK.out _ _ HSI.out.cell (fun hHeld => ?_)
        clear hK K hHeld
        obtain ⟨b8, hbk⟩ : ∃ b, b = (W3).heap.size := ⟨_, rfl⟩
        obtain ⟨W3, hW3⟩ : ∃ Wn, Wn = (W3).alloc (.cells polyZ 89) := ⟨_, rfl⟩
        rw [← hW3] at HSI ⊢
        rw [← hbk] at HSI ⊢
        clear hW3 hbk
        have hHeld := HSI.out.cell
        try simp only [Act.put, List.setIfInBounds_toArray, List.set_cons_zero, List.set_cons_succ]
        refine wpAnyH_ready (rs := [9]) (by kernel_rfl) (by simp) ?_
        refine AllReadyH.cons (o := { dst := some 21, op := Op.call { callee := Callee.value (Operand.func 68), args := #[Operand.tmp 19, Operand.tmp 20], argTypes := #[3, 3] }, type := 89, pos := "field.go:152", after := #[{ on := 7, ground := Ground.data }, { on := 8, ground := Ground.data }, { on := 4, ground := Ground.chain }], guard := none }) rfl (fun K hK => ?_) AllReadyH.nil
        go_simp
        refine (HD2.out _).mono ?_
        rintro e W2 ⟨rfl, hbl⟩
        replace HSI := Lib.hid (HSI.out.call hbl)
        clear hbl hHeld
        go_simp
        refine hK.out _ _ HSI.out.cell (fun hHeld => ?_)
        clear hK K
        try simp only [Act.put, List.setIfInBounds_toArray, List.set_cons_zero, List.set_cons_succ]
        refine wpAnyH_ready (rs := [12]) (by kernel_rfl) (by simp) ?_
        refine AllReadyH.cons (o := { dst := none, op := Op.store 89 (Operand.tmp 7) (Operand.tmp 16), type := 0, pos := "field.go:152", after := #[{ on := 10, ground := Ground.data }, { on := 4, ground := Ground.data }, { on := 9, ground := Ground.chain }, { on := 0, ground := Ground.phase }, { on := 1, ground := Ground.phase }, { on := 2, ground := Ground.phase }, { on := 3, ground := Ground.phase }, { on := 4, ground := Ground.phase }, { on := 5, ground := Ground.textOnly Departure.lateStores }, { on := 6, ground := Ground.textOnly Departure.lateStores }, { on := 7, ground := Ground.textOnly Departure.lateStores }, { on := 8, ground := Ground.textOnly Departure.lateStores }, { on := 9, ground := Ground.textOnly Departure.lateStoresUnsure }, { on := 10, ground := Ground.phase }, { on := 11, ground := Ground.phase }], guard := none }) rfl (fun K hK => ?_) AllReadyH.nil
        go_simp
        rw [stP_run (P := Tryd.prog) HSI.out.wr1]
        replace HSI := Lib.hid (HSI.out.put1 (dF p a))
        clear hHeld
        go_simp
        refine hK.out _ _ HSI.out.cell (fun hHeld => ?_)
        clear hK K hHeld
        obtain ⟨W4, hW4⟩ : ∃ Wn, Wn = stP (W2) b7 (dF p a) := ⟨_, rfl⟩
        rw [← hW4] at HSI ⊢
        clear hW4
        have hHeld := HSI.out.cell
        try simp only [Act.put]
        refine wpAnyH_ready (rs := [13]) (by kernel_rfl) (by simp) ?_
        refine AllReadyH.cons (o := { dst := none, op := Op.store 89 (Operand.tmp 8) (Operand.tmp 21), type := 0, pos := "field.go:152", after := #[{ on := 11, ground := Ground.data }, { on := 9, ground := Ground.data }, { on := 12, ground := Ground.chain }, { on := 0, ground := Ground.phase }, { on := 1, ground := Ground.phase }, { on := 2, ground := Ground.phase }, { on := 3, ground := Ground.phase }, { on := 4, ground := Ground.phase }, { on := 5, ground := Ground.phase }, { on := 6, ground := Ground.phase }, { on := 7, ground := Ground.phase }, { on := 8, ground := Ground.phase }, { on := 9, ground := Ground.phase }, { on := 10, ground := Ground.phase }, { on := 11, ground := Ground.phase }, { on := 12, ground := Ground.phase }], guard := none }) rfl (fun K hK => ?_) AllReadyH.nil
        go_simp
        rw [stP_run (P := Tryd.prog) HSI.out.wr2]
        replace HSI := Lib.hid (HSI.out.put2 (dF p b))
        clear hHeld
        go_simp
        refine hK.out _ _ HSI.out.cell (fun hHeld => ?_)
        clear hK K hHeld
        obtain ⟨W4, hW4⟩ : ∃ Wn, Wn = stP (W4) b8 (dF p b) := ⟨_, rfl⟩
        rw [← hW4] at HSI ⊢
        clear hW4
        have hHeld := HSI.out.cell
        try simp only [Act.put]
        refine wpAnyH_done (by kernel_rfl) ?_ _
        refine NoPanic.normal ?_
        go_wp2_with fail
        go_meet
        exact ⟨b7, b8, rfl, rfl, HSI.out.two⟩
      refine AllReadyH.cons (o := { dst := some 8, op := Op.alloc 89, type := 0, pos := "field.go:152", after := #[], guard := none }) rfl (fun K hK => ?_) AllReadyH.nil
      go_simp
      replace HSI := Lib.hid (HSI.out.make2 89)
      clear hHeld
      refine hK.out _ _ HSI.out.cell (fun hHeld => ?_)
      clear hK K hHeld
      obtain ⟨b8, hbk⟩ : ∃ b, b = (W2).heap.size := ⟨_, rfl⟩
      obtain ⟨W3, hW3⟩ : ∃ Wn, Wn = (W2).alloc (.cells polyZ 89) := ⟨_, rfl⟩
      rw [← hW3] at HSI ⊢
      rw [← hbk] at HSI ⊢
      clear hW3 hbk
      have hHeld := HSI.out.cell
      try simp only [Act.put, List.setIfInBounds_toArray, List.set_cons_zero, List.set_cons_succ]
      refine wpAnyH_ready (rs := [9, 10]) (by kernel_rfl) (by simp) ?_
      refine AllReadyH.cons (o := { dst := some 21, op := Op.call { callee := Callee.value (Operand.func 68), args := #[Operand.tmp 19, Operand.tmp 20], argTypes := #[3, 3] }, type := 89, pos := "field.go:152", after := #[{ on := 7, ground := Ground.data }, { on := 8, ground := Ground.data }, { on := 4, ground := Ground.chain }], guard := none }) rfl (fun K hK => ?_) ?_
      · go_simp
        refine (HD2.out _).mono ?_
        rintro e W2 ⟨rfl, hbl⟩
        replace HSI := Lib.hid (HSI.out.call hbl)
        clear hbl hHeld
        go_simp
        refine hK.out _ _ HSI.out.cell (fun hHeld => ?_)
        clear hK K
        try simp only [Act.put, List.setIfInBounds_toArray, List.set_cons_zero, List.set_cons_succ]
        refine wpAnyH_ready (rs := [10]) (by kernel_rfl) (by simp) ?_
        refine AllReadyH.cons (o := { dst := some 7, op := Op.alloc 89, type := 0, pos := "field.go:152", after := #[], guard := none }) rfl (fun K hK => ?_) AllReadyH.nil
        go_simp
        replace HSI := Lib.hid (HSI.out.make1 89)
        clear hHeld
        refine hK.out _ _ HSI.out.cell (fun hHeld => ?_)
        clear hK K hHeld
        obtain ⟨b7, hbk⟩ : ∃ b, b = (W2).heap.size := ⟨_, rfl⟩
        obtain ⟨W3, hW3⟩ : ∃ Wn, Wn = (W2).alloc (.cells polyZ 89) := ⟨_, rfl⟩
        rw [← hW3] at HSI ⊢
        rw [← hbk] at HSI ⊢
        clear hW3 hbk
        have hHeld := HSI.out.cell
        try simp only [Act.put, List.setIfInBounds_toArray, List.set_cons_zero, List.set_cons_succ]
        refine wpAnyH_ready (rs := [12]) (by kernel_rfl) (by simp) ?_
        refine AllReadyH.cons (o := { dst := none, op := Op.store 89 (Operand.tmp 7) (Operand.tmp 16), type := 0, pos := "field.go:152", after := #[{ on := 10, ground := Ground.data }, { on := 4, ground := Ground.data }, { on := 9, ground := Ground.chain }, { on := 0, ground := Ground.phase }, { on := 1, ground := Ground.phase }, { on := 2, ground := Ground.phase }, { on := 3, ground := Ground.phase }, { on := 4, ground := Ground.phase }, { on := 5, ground := Ground.textOnly Departure.lateStores }, { on := 6, ground := Ground.textOnly Departure.lateStores }, { on := 7, ground := Ground.textOnly Departure.lateStores }, { on := 8, ground := Ground.textOnly Departure.lateStores }, { on := 9, ground := Ground.textOnly Departure.lateStoresUnsure }, { on := 10, ground := Ground.phase }, { on := 11, ground := Ground.phase }], guard := none }) rfl (fun K hK => ?_) AllReadyH.nil
        go_simp
        rw [stP_run (P := Tryd.prog) HSI.out.wr1]
        replace HSI := Lib.hid (HSI.out.put1 (dF p a))
        clear hHeld
        go_simp
        refine hK.out _ _ HSI.out.cell (fun hHeld => ?_)
        clear hK K hHeld
        obtain ⟨W4, hW4⟩ : ∃ Wn, Wn = stP (W3) b7 (dF p a) := ⟨_, rfl⟩
        rw [← hW4] at HSI ⊢
        clear hW4
        have hHeld := HSI.out.cell
        try simp only [Act.put]
        refine wpAnyH_ready (rs := [13]) (by kernel_rfl) (by simp) ?_
        refine AllReadyH.cons (o := { dst := none, op := Op.store 89 (Operand.tmp 8) (Operand.tmp 21), type := 0, pos := "field.go:152", after := #[{ on := 11, ground := Ground.data }, { on := 9, ground := Ground.data }, { on := 12, ground := Ground.chain }, { on := 0, ground := Ground.phase }, { on := 1, ground := Ground.phase }, { on := 2, ground := Ground.phase }, { on := 3, ground := Ground.phase }, { on := 4, ground := Ground.phase }, { on := 5, ground := Ground.phase }, { on := 6, ground := Ground.phase }, { on := 7, ground := Ground.phase }, { on := 8, ground := Ground.phase }, { on := 9, ground := Ground.phase }, { on := 10, ground := Ground.phase }, { on := 11, ground := Ground.phase }, { on := 12, ground := Ground.phase }], guard := none }) rfl (fun K hK => ?_) AllReadyH.nil
        go_simp
        rw [stP_run (P := Tryd.prog) HSI.out.wr2]
        replace HSI := Lib.hid (HSI.out.put2 (dF p b))
        clear hHeld
        go_simp
        refine hK.out _ _ HSI.out.cell (fun hHeld => ?_)
        clear hK K hHeld
        obtain ⟨W4, hW4⟩ : ∃ Wn, Wn = stP (W4) b8 (dF p b) := ⟨_, rfl⟩
        rw [← hW4] at HSI ⊢
        clear hW4
        have hHeld := HSI.out.cell
        try simp only [Act.put]
        refine wpAnyH_done (by kernel_rfl) ?_ _
        refine NoPanic.normal ?_
        go_wp2_with fail
        go_meet
        exact ⟨b7, b8, rfl, rfl, HSI.out.two⟩
      refine AllReadyH.cons (o := { dst := some 7, op := Op.alloc 89, type := 0, pos := "field.go:152", after := #[], guard := none }) rfl (fun K hK => ?_) AllReadyH.nil
      go_simp
      replace HSI := Lib.hid (HSI.out.make1 89)
      clear hHeld
      refine hK.out _ _ HSI.out.cell (fun hHeld => ?_)
      clear hK K hHeld
      obtain ⟨b7, hbk⟩ : ∃ b, b = (W3).heap.size := ⟨_, rfl⟩
      obtain ⟨W3, hW3⟩ : ∃ Wn, Wn = (W3).alloc (.cells polyZ 89) := ⟨_, rfl⟩
      rw [← hW3] at HSI ⊢
      rw [← hbk] at HSI ⊢
      clear hW3 hbk
      have hHeld := HSI.out.cell
      try simp only [Act.put, List.setIfInBounds_toArray, List.set_cons_zero, List.set_cons_succ]
      refine wpAnyH_ready (rs := [9]) (by kernel_rfl) (by simp) ?_
      refine AllReadyH.cons (o := { dst := some 21, op := Op.call { callee := Callee.value (Operand.func 68), args := #[Operand.tmp 19, Operand.tmp 20], argTypes := #[3, 3] }, type := 89, pos := "field.go:152", after := #[{ on := 7, ground := Ground.data }, { on := 8, ground := Ground.data }, { on := 4, ground := Ground.chain }], guard := none }) rfl (fun K hK => ?_) AllReadyH.nil
      go_simp
      refine (HD2.out _).mono ?_
      rintro e W2 ⟨rfl, hbl⟩
      replace HSI := Lib.hid (HSI.out.call hbl)
      clear hbl hHeld
      go_simp
      refine hK.out _ _ HSI.out.cell (fun hHeld => ?_)
      clear hK K
      try simp only [Act.put, List.setIfInBounds_toArray, List.set_cons_zero, List.set_cons_succ]
      refine wpAnyH_ready (rs := [12]) (by kernel_rfl) (by simp) ?_
      refine AllReadyH.cons (o := { dst := none, op := Op.store 89 (Operand.tmp 7) (Operand.tmp 16), type := 0, pos := "field.go:152", after := #[{ on := 10, ground := Ground.data }, { on := 4, ground := Ground.data }, { on := 9, ground := Ground.chain }, { on := 0, ground := Ground.phase }, { on := 1, ground := Ground.phase }, { on := 2, ground := Ground.phase }, { on := 3, ground := Ground.phase }, { on := 4, ground := Ground.phase }, { on := 5, ground := Ground.textOnly Departure.lateStores }, { on := 6, ground := Ground.textOnly Departure.lateStores }, { on := 7, ground := Ground.textOnly Departure.lateStores }, { on := 8, ground := Ground.textOnly Departure.lateStores }, { on := 9, ground := Ground.textOnly Departure.lateStoresUnsure }, { on := 10, ground := Ground.phase }, { on := 11, ground := Ground.phase }], guard := none }) rfl (fun K hK => ?_) AllReadyH.nil
      go_simp
      rw [stP_run (P := Tryd.prog) HSI.out.wr1]
      replace HSI := Lib.hid (HSI.out.put1 (dF p a))
      clear hHeld
      go_simp
      refine hK.out _ _ HSI.out.cell (fun hHeld => ?_)
      clear hK K hHeld
      obtain ⟨W4, hW4⟩ : ∃ Wn, Wn = stP (W2) b7 (dF p a) := ⟨_, rfl⟩
      rw [← hW4] at HSI ⊢
      clear hW4
      have hHeld := HSI.out.cell
      try simp only [Act.put]
      refine wpAnyH_ready (rs := [13]) (by kernel_rfl) (by simp) ?_
      refine AllReadyH.cons (o := { dst := none, op := Op.store 89 (Operand.tmp 8) (Operand.tmp 21), type := 0, pos := "field.go:152", after := #[{ on := 11, ground := Ground.data }, { on := 9, ground := Ground.data }, { on := 12, ground := Ground.chain }, { on := 0, ground := Ground.phase }, { on := 1, ground := Ground.phase }, { on := 2, ground := Ground.phase }, { on := 3, ground := Ground.phase }, { on := 4, ground := Ground.phase }, { on := 5, ground := Ground.phase }, { on := 6, ground := Ground.phase }, { on := 7, ground := Ground.phase }, { on := 8, ground := Ground.phase }, { on := 9, ground := Ground.phase }, { on := 10, ground := Ground.phase }, { on := 11, ground := Ground.phase }, { on := 12, ground := Ground.phase }], guard := none }) rfl (fun K hK => ?_) AllReadyH.nil
      go_simp
      rw [stP_run (P := Tryd.prog) HSI.out.wr2]
      replace HSI := Lib.hid (HSI.out.put2 (dF p b))
      clear hHeld
      go_simp
      refine hK.out _ _ HSI.out.cell (fun hHeld => ?_)
      clear hK K hHeld
      obtain ⟨W4, hW4⟩ : ∃ Wn, Wn = stP (W4) b8 (dF p b) := ⟨_, rfl⟩
      rw [← hW4] at HSI ⊢
      clear hW4
      have hHeld := HSI.out.cell
      try simp only [Act.put]
      refine wpAnyH_done (by kernel_rfl) ?_ _
      refine NoPanic.normal ?_
      go_wp2_with fail
      go_meet
      exact ⟨b7, b8, rfl, rfl, HSI.out.two⟩
    refine AllReadyH.cons (o := { dst := some 7, op := Op.alloc 89, type := 0, pos := "field.go:152", after := #[], guard := none }) rfl (fun K hK => ?_) ?_
    · go_simp
      replace HSI := Lib.hid (HSI.out.make1 89)
      clear hHeld
      refine hK.out _ _ HSI.out.cell (fun hHeld => ?_)
      clear hK K hHeld
      obtain ⟨b7, hbk⟩ : ∃ b, b = (W).heap.size := ⟨_, rfl⟩
      obtain ⟨W3, hW3⟩ : ∃ Wn, Wn = (W).alloc (.cells polyZ 89) := ⟨_, rfl⟩
      rw [← hW3] at HSI ⊢
      rw [← hbk] at HSI ⊢
      clear hW3 hbk
      have hHeld := HSI.out.cell
      try simp only [Act.put, List.setIfInBounds_toArray, List.set_cons_zero, List.set_cons_succ]
      refine wpAnyH_ready (rs := [4, 11]) (by kernel_rfl) (by simp) ?_
      refine AllReadyH.cons (o := { dst := some 16, op := Op.call { callee := Callee.value (Operand.func 68), args := #[Operand.tmp 14, Operand.tmp 15], argTypes := #[3, 3] }, type := 89, pos := "field.go:152", after := #[{ on := 2, ground := Ground.data }, { on := 3, ground := Ground.data }], guard := none }) rfl (fun K hK => ?_) ?_
      · go_simp
        refine (HD1.out _).mono ?_
        rintro e W2 ⟨rfl, hbl⟩
        replace HSI := Lib.hid (HSI.out.call hbl)
        clear hbl hHeld
        go_simp
        refine hK.out _ _ HSI.out.cell (fun hHeld => ?_)
        clear hK K
        try simp only [Act.put, List.setIfInBounds_toArray, List.set_cons_zero, List.set_cons_succ]
        refine wpAnyH_ready (rs := [9, 11]) (by kernel_rfl) (by simp) ?_
        refine AllReadyH.cons (o := { dst := some 21, op := Op.call { callee := Callee.value (Operand.func 68), args := #[Operand.tmp 19, Operand.tmp 20], argTypes := #[3, 3] }, type := 89, pos := "field.go:152", after := #[{ on := 7, ground := Ground.data }, { on := 8, ground := Ground.data }, { on := 4, ground := Ground.chain }], guard := none }) rfl (fun K hK => ?_) ?_
        · go_simp
          refine (HD2.out _).mono ?_
          rintro e W2 ⟨rfl, hbl⟩
          replace HSI := Lib.hid (HSI.out.call hbl)
          clear hbl hHeld
          go_simp
          refine hK.out _ _ HSI.out.cell (fun hHeld => ?_)
          clear hK K
          try simp only [Act.put, List.setIfInBounds_toArray, List.set_cons_zero, List.set_cons_succ]
          refine wpAnyH_ready (rs := [11]) (by kernel_rfl) (by simp) ?_
          refine AllReadyH.cons (o := { dst := some 8, op := Op.alloc 89, type := 0, pos := "field.go:152", after := #[], guard := none }) rfl (fun K hK => ?_) AllReadyH.nil
          go_simp
          replace HSI := Lib.hid (HSI.out.make2 89)
          clear hHeld
          refine hK.out _ _ HSI.out.cell (fun hHeld => ?_)
          clear hK K hHeld
          obtain ⟨b8, hbk⟩ : ∃ b, b = (W2).heap.size := ⟨_, rfl⟩
          obtain ⟨W3, hW3⟩ : ∃ Wn, Wn = (W2).alloc (.cells polyZ 89) := ⟨_, rfl⟩
          rw [← hW3] at HSI ⊢
          rw [← hbk] at HSI ⊢
          clear hW3 hbk
          have hHeld := HSI.out.cell
          try simp only [Act.put, List.setIfInBounds_toArray, List.set_cons_zero, List.set_cons_succ]
          refine wpAnyH_ready (rs := [12]) (by kernel_rfl) (by simp) ?_
          refine AllReadyH.cons (o := { dst := none, op := Op.store 89 (Operand.tmp 7) (Operand.tmp 16), type := 0, pos := "field.go:152", after := #[{ on := 10, ground := Ground.data }, { on := 4, ground := Ground.data }, { on := 9, ground := Ground.chain }, { on := 0, ground := Ground.phase }, { on := 1, ground := Ground.phase }, { on := 2, ground := Ground.phase }, { on := 3, ground := Ground.phase }, { on := 4, ground := Ground.phase }, { on := 5, ground := Ground.textOnly Departure.lateStores }, { on := 6, ground := Ground.textOnly Departure.lateStores }, { on := 7, ground := Ground.textOnly Departure.lateStores }, { on := 8, ground := Ground.textOnly Departure.lateStores }, { on := 9, ground := Ground.textOnly Departure.lateStoresUnsure }, { on := 10, ground := Ground.phase }, { on := 11, ground := Ground.phase }], guard := none }) rfl (fun K hK => ?_) AllReadyH.nil
          go_simp
          rw [stP_run (P := Tryd.prog) HSI.out.wr1]
          replace HSI := Lib.hid (HSI.out.put1 (dF p a))
          clear hHeld
          go_simp
          refine hK.out _ _ HSI.out.cell (fun hHeld => ?_)
          clear hK K hHeld
          obtain ⟨W4, hW4⟩ : ∃ Wn, Wn = stP (W3) b7 (dF p a) := ⟨_, rfl⟩
          rw [← hW4] at HSI ⊢
          clear hW4
          have hHeld := HSI.out.cell
          try simp only [Act.put]
          refine wpAnyH_ready (rs := [13]) (by kernel_rfl) (by simp) ?_
          refine AllReadyH.cons (o := { dst := none, op := Op.store 89 (Operand.tmp 8) (Operand.tmp 21), type := 0, pos := "field.go:152", after := #[{ on := 11, ground := Ground.data }, { on := 9, ground := Ground.data }, { on := 12, ground := Ground.chain }, { on := 0, ground := Ground.phase }, { on := 1, ground := Ground.phase }, { on := 2, ground := Ground.phase }, { on := 3, ground := Ground.phase }, { on := 4, ground := Ground.phase }, { on := 5, ground := Ground.phase }, { on := 6, ground := Ground.phase }, { on := 7, ground := Ground.phase }, { on := 8, ground := Ground.phase }, { on := 9, ground := Ground.phase }, { on := 10, ground := Ground.phase }, { on := 11, ground := Ground.phase }, { on := 12, ground := Ground.phase }], guard := none }) rfl (fun K hK => ?_) AllReadyH.nil
          go_simp
          rw [stP_run (P := Tryd.prog) HSI.out.wr2]
          replace HSI := Lib.hid (HSI.out.put2 (dF p b))
          clear hHeld
          go_simp
          refine hK.out _ _ HSI.out.cell (fun hHeld => ?_)
          clear hK K hHeld
          obtain ⟨W4, hW4⟩ : ∃ Wn, Wn = stP (W4) b8 (dF p b) := ⟨_, rfl⟩
          rw [← hW4] at HSI ⊢
          clear hW4
          have hHeld := HSI.out.cell
          try simp only [Act.put]
          refine wpAnyH_done (by kernel_rfl) ?_ _
          refine NoPanic.normal ?_
          go_wp2_with fail
          go_meet
          exact ⟨b7, b8, rfl, rfl, HSI.out.two⟩
        refine AllReadyH.cons (o := { dst := some 8, op := Op.alloc 89, type := 0, pos := "field.go:152", after := #[], guard := none }) rfl (fun K hK => ?_) AllReadyH.nil
        go_simp
        replace HSI := Lib.hid (HSI.out.make2 89)
        clear hHeld
        refine hK.out _ _ HSI.out.cell (fun hHeld => ?_)
        clear hK K hHeld
        obtain ⟨b8, hbk⟩ : ∃ b, b = (W2).heap.size := ⟨_, rfl⟩
        obtain ⟨W3, hW3⟩ : ∃ Wn, Wn = (W2).alloc (.cells polyZ 89) := ⟨_, rfl⟩
        rw [← hW3] at HSI ⊢
        rw [← hbk] at HSI ⊢
        clear hW3 hbk
        have hHeld := HSI.out.cell
        try simp only [Act.put, List.setIfInBounds_toArray, List.set_cons_zero, List.set_cons_succ]
        refine wpAnyH_ready (rs := [9]) (by kernel_rfl) (by simp) ?_
        refine AllReadyH.cons (o := { dst := some 21, op := Op.call { callee := Callee.value (Operand.func 68), args := #[Operand.tmp 19, Operand.tmp 20], argTypes := #[3, 3] }, type := 89, pos := "field.go:152", after := #[{ on := 7, ground := Ground.data }, { on := 8, ground := Ground.data }, { on := 4, ground := Ground.chain }], guard := none }) rfl (fun K hK => ?_) AllReadyH.nil
        go_simp
        refine (HD2.out _).mono ?_
        rintro e W2 ⟨rfl, hbl⟩
        replace HSI := Lib.hid (HSI.out.call hbl)
        clear hbl hHeld
        go_simp
        refine hK.out _ _ HSI.out.cell (fun hHeld => ?_)
        clear hK K
        try simp only [Act.put, List.setIfInBounds_toArray, List.set_cons_zero, List.set_cons_succ]
        refine wpAnyH_ready (rs := [12]) (by kernel_rfl) (by simp) ?_
        refine AllReadyH.cons (o := { dst := none, op := Op.store 89 (Operand.tmp 7) (Operand.tmp 16), type := 0, pos := "field.go:152", after := #[{ on := 10, ground := Ground.data }, { on := 4, ground := Ground.data }, { on := 9, ground := Ground.chain }, { on := 0, ground := Ground.phase }, { on := 1, ground := Ground.phase }, { on := 2, ground := Ground.phase }, { on := 3, ground := Ground.phase }, { on := 4, ground := Ground.phase }, { on := 5, ground := Ground.textOnly Departure.lateStores }, { on := 6, ground := Ground.textOnly Departure.lateStores }, { on := 7, ground := Ground.textOnly Departure.lateStores }, { on := 8, ground := Ground.textOnly Departure.lateStores }, { on := 9, ground := Ground.textOnly Departure.lateStoresUnsure }, { on := 10, ground := Ground.phase }, { on := 11, ground := Ground.phase }], guard := none }) rfl (fun K hK => ?_) AllReadyH.nil
        go_simp
        rw [stP_run (P := Tryd.prog) HSI.out.wr1]
        replace HSI := Lib.hid (HSI.out.put1 (dF p a))
        clear hHeld
        go_simp
        refine hK.out _ _ HSI.out.cell (fun hHeld => ?_)
        clear hK K hHeld
        obtain ⟨W4, hW4⟩ : ∃ Wn, Wn = stP (W2) b7 (dF p a) := ⟨_, rfl⟩
        rw [← hW4] at HSI ⊢
        clear hW4
        have hHeld := HSI.out.cell
        try simp only [Act.put]
        refine wpAnyH_ready (rs := [13]) (by kernel_rfl) (by simp) ?_
        refine AllReadyH.cons (o := { dst := none, op := Op.store 89 (Operand.tmp 8) (Operand.tmp 21), type := 0, pos := "field.go:152", after := #[{ on := 11, ground := Ground.data }, { on := 9, ground := Ground.data }, { on := 12, ground := Ground.chain }, { on := 0, ground := Ground.phase }, { on := 1, ground := Ground.phase }, { on := 2, ground := Ground.phase }, { on := 3, ground := Ground.phase }, { on := 4, ground := Ground.phase }, { on := 5, ground := Ground.phase }, { on := 6, ground := Ground.phase }, { on := 7, ground := Ground.phase }, { on := 8, ground := Ground.phase }, { on := 9, ground := Ground.phase }, { on := 10, ground := Ground.phase }, { on := 11, ground := Ground.phase }, { on := 12, ground := Ground.phase }], guard := none }) rfl (fun K hK => ?_) AllReadyH.nil
        go_simp
        rw [stP_run (P := Tryd.prog) HSI.out.wr2]
        replace HSI := Lib.hid (HSI.out.put2 (dF p b))
        clear hHeld
        go_simp
        refine hK.out _ _ HSI.out.cell (fun hHeld => ?_)
        clear hK K hHeld
        obtain ⟨W4, hW4⟩ : ∃ Wn, Wn = stP (W4) b8 (dF p b) := ⟨_, rfl⟩
        rw [← hW4] at HSI ⊢
        clear hW4
        have hHeld := HSI.out.cell
        try simp only [Act.put]
        refine wpAnyH_done (by kernel_rfl) ?_ _
        refine NoPanic.normal ?_
        go_wp2_with fail
        go_meet
        exact ⟨b7, b8, rfl, rfl, HSI.out.two⟩
      refine AllReadyH.cons (o := { dst := some 8, op := Op.alloc 89, type := 0, pos := "field.go:152", after := #[], guard := none }) rfl (fun K hK => ?_) AllReadyH.nil
      go_simp
      replace HSI := Lib.hid (HSI.out.make2 89)
      clear hHeld
      refine hK.out _ _ HSI.out.cell (fun hHeld => ?_)
      clear hK K hHeld
      obtain ⟨b8, hbk⟩ : ∃ b, b = (W3).heap.size := ⟨_, rfl⟩
      obtain ⟨W3, hW3⟩ : ∃ Wn, Wn = (W3).alloc (.cells polyZ 89) := ⟨_, rfl⟩
      rw [← hW3] at HSI ⊢
      rw [← hbk] at HSI ⊢
      clear hW3 hbk
      have hHeld := HSI.out.cell
      try simp only [Act.put, List.setIfInBounds_toArray, List.set_cons_zero, List.set_cons_succ]
      refine wpAnyH_ready (rs := [4]) (by kernel_rfl) (by simp) ?_
      refine AllReadyH.cons (o := { dst := some 16, op := Op.call { callee := Callee.value (Operand.func 68), args := #[Operand.tmp 14, Operand.tmp 15], argTypes := #[3, 3] }, type := 89, pos := "field.go:152", after := #[{ on := 2, ground := Ground.data }, { on := 3, ground := Ground.data }], guard := none }) rfl (fun K hK => ?_) AllReadyH.nil
      go_simp
      refine (HD1.out _).mono ?_
      rintro e W2 ⟨rfl, hbl⟩
      replace HSI := Lib.hid (HSI.out.call hbl)
      clear hbl hHeld
      go_simp
      refine hK.out _ _ HSI.out.cell (fun hHeld => ?_)
      clear hK K
      try simp only [Act.put, List.setIfInBounds_toArray, List.set_cons_zero, List.set_cons_succ]
      refine wpAnyH_ready (rs := [9]) (by kernel_rfl) (by simp) ?_
      refine AllReadyH.cons (o := { dst := some 21, op := Op.call { callee := Callee.value (Operand.func 68), args := #[Operand.tmp 19, Operand.tmp 20], argTypes := #[3, 3] }, type := 89, pos := "field.go:152", after := #[{ on := 7, ground := Ground.data }, { on := 8, ground := Ground.data }, { on := 4, ground := Ground.chain }], guard := none }) rfl (fun K hK => ?_) AllReadyH.nil
      go_simp
      refine (HD2.out _).mono ?_
      rintro e W2 ⟨rfl, hbl⟩
      replace HSI := Lib.hid (HSI.out.call hbl)
      clear hbl hHeld
      go_simp
      refine hK.out _ _ HSI.out.cell (fun hHeld => ?_)
      clear hK K
      try simp only [Act.put, List.setIfInBounds_toArray, List.set_cons_zero, List.set_cons_succ]
      refine wpAnyH_ready (rs := [12]) (by kernel_rfl) (by simp) ?_
      refine AllReadyH.cons (o := { dst := none, op := Op.store 89 (Operand.tmp 7) (Operand.tmp 16), type := 0, pos := "field.go:152", after := #[{ on := 10, ground := Ground.data }, { on := 4, ground := Ground.data }, { on := 9, ground := Ground.chain }, { on := 0, ground := Ground.phase }, { on := 1, ground := Ground.phase }, { on := 2, ground := Ground.phase }, { on := 3, ground := Ground.phase }, { on := 4, ground := Ground.phase }, { on := 5, ground := Ground.textOnly Departure.lateStores }, { on := 6, ground := Ground.textOnly Departure.lateStores }, { on := 7, ground := Ground.textOnly Departure.lateStores }, { on := 8, ground := Ground.textOnly Departure.lateStores }, { on := 9, ground := Ground.textOnly Departure.lateStoresUnsure }, { on := 10, ground := Ground.phase }, { on := 11, ground := Ground.phase }], guard := none }) rfl (fun K hK => ?_) AllReadyH.nil
      go_simp
      rw [stP_run (P := Tryd.prog) HSI.out.wr1]
      replace HSI := Lib.hid (HSI.out.put1 (dF p a))
      clear hHeld
      go_simp
      refine hK.out _ _ HSI.out.cell (fun hHeld => ?_)
      clear hK K hHeld
      obtain ⟨W4, hW4⟩ : ∃ Wn, Wn = stP (W2) b7 (dF p a) := ⟨_, rfl⟩
      rw [← hW4] at HSI ⊢
      clear hW4
      have hHeld := HSI.out.cell
      try simp only [Act.put]
      refine wpAnyH_ready (rs := [13]) (by kernel_rfl) (by simp) ?_
      refine AllReadyH.cons (o := { dst := none, op := Op.store 89 (Operand.tmp 8) (Operand.tmp 21), type := 0, pos := "field.go:152", after := #[{ on := 11, ground := Ground.data }, { on := 9, ground := Ground.data }, { on := 12, ground := Ground.chain }, { on := 0, ground := Ground.phase }, { on := 1, ground := Ground.phase }, { on := 2, ground := Ground.phase }, { on := 3, ground := Ground.phase }, { on := 4, ground := Ground.phase }, { on := 5, ground := Ground.phase }, { on := 6, ground := Ground.phase }, { on := 7, ground := Ground.phase }, { on := 8, ground := Ground.phase }, { on := 9, ground := Ground.phase }, { on := 10, ground := Ground.phase }, { on := 11, ground := Ground.phase }, { on := 12, ground := Ground.phase }], guard := none }) rfl (fun K hK => ?_) AllReadyH.nil
      go_simp
      rw [stP_run (P := Tryd.prog) HSI.out.wr2]
      replace HSI := Lib.hid (HSI.out.put2 (dF p b))
      clear hHeld
      go_simp
      refine hK.out _ _ HSI.out.cell (fun hHeld => ?_)
      clear hK K hHeld
      obtain ⟨W4, hW4⟩ : ∃ Wn, Wn = stP (W4) b8 (dF p b) := ⟨_, rfl⟩
      rw [← hW4] at HSI ⊢
      clear hW4
      have hHeld := HSI.out.cell
      try simp only [Act.put]
      refine wpAnyH_done (by kernel_rfl) ?_ _
      refine NoPanic.normal ?_
      go_wp2_with fail
      go_meet
      exact ⟨b7, b8, rfl, rfl, HSI.out.two⟩
    refine AllReadyH.cons (o := { dst := some 8, op := Op.alloc 89, type := 0, pos := "field.go:152", after := #[], guard := none }) rfl (fun K hK => ?_) AllReadyH.nil
    go_simp
    replace HSI := Lib.hid (HSI.out.make2 89)
    clear hHeld
    refine hK.out _ _ HSI.out.cell (fun hHeld => ?_)
    clear hK K hHeld
    obtain ⟨b8, hbk⟩ : ∃ b, b = (W).heap.size := ⟨_, rfl⟩
    obtain ⟨W3, hW3⟩ : ∃ Wn, Wn = (W).alloc (.cells polyZ 89) := ⟨_, rfl⟩
    rw [← hW3] at HSI ⊢
    rw [← hbk] at HSI ⊢
    clear hW3 hbk
    have hHeld := HSI.out.cell
    try simp only [Act.put, List.setIfInBounds_toArray, List.set_cons_zero, List.set_cons_succ]
    refine wpAnyH_ready (rs := [4, 10]) (by kernel_rfl) (by simp) ?_
    refine AllReadyH.cons (o := { dst := some 16, op := Op.call { callee := Callee.value (Operand.func 68), args := #[Operand.tmp 14, Operand.tmp 15], argTypes := #[3, 3] }, type := 89, pos := "field.go:152", after := #[{ on := 2, ground := Ground.data }, { on := 3, ground := Ground.data }], guard := none }) rfl (fun K hK => ?_) ?_
    · go_simp
      refine (HD1.out _).mono ?_
      rintro e W2 ⟨rfl, hbl⟩
      replace HSI := Lib.hid (HSI.out.call hbl)
      clear hbl hHeld
      go_simp
      refine hK.out _ _ HSI.out.cell (fun hHeld => ?_)
      clear hK K
      try simp only [Act.put, List.setIfInBounds_toArray, List.set_cons_zero, List.set_cons_succ]
      refine wpAnyH_ready (rs := [9, 10]) (by kernel_rfl) (by simp) ?_
      refine AllReadyH.cons (o := { dst := some 21, op := Op.call { callee := Callee.value (Operand.func 68), args := #[Operand.tmp 19, Operand.tmp 20], argTypes := #[3, 3] }, type := 89, pos := "field.go:152", after := #[{ on := 7, ground := Ground.data }, { on := 8, ground := Ground.data }, { on := 4, ground := Ground.chain }], guard := none }) rfl (fun K hK => ?_) ?_
      · go_simp
        refine (HD2.out _).mono ?_
        rintro e W2 ⟨rfl, hbl⟩
        replace HSI := Lib.hid (HSI.out.call hbl)
        clear hbl hHeld
        go_simp
        refine hK.out _ _ HSI.out.cell (fun hHeld => ?_)
        clear hK K
        try simp only [Act.put, List.setIfInBounds_toArray, List.set_cons_zero, List.set_cons_succ]
        refine wpAnyH_ready (rs := [10]) (by kernel_rfl) (by simp) ?_
        refine AllReadyH.cons (o := { dst := some 7, op := Op.alloc 89, type := 0, pos := "field.go:152", after := #[], guard := none }) rfl (fun K hK => ?_) AllReadyH.nil
        go_simp
        replace HSI := Lib.hid (HSI.out.make1 89)
        clear hHeld
        refine hK.out _ _ HSI.out.cell (fun hHeld => ?_)
        clear hK K hHeld
        obtain ⟨b7, hbk⟩ : ∃ b, b = (W2).heap.size := ⟨_, rfl⟩
        obtain ⟨W3, hW3⟩ : ∃ Wn, Wn = (W2).alloc (.cells polyZ 89) := ⟨_, rfl⟩
        rw [← hW3] at HSI ⊢
        rw [← hbk] at HSI ⊢
        clear hW3 hbk
        have hHeld := HSI.out.cell
        try simp only [Act.put, List.setIfInBounds_toArray, List.set_cons_zero, List.set_cons_succ]
        refine wpAnyH_ready (rs := [12]) (by kernel_rfl) (by simp) ?_
        refine AllReadyH.cons (o := { dst := none, op := Op.store 89 (Operand.tmp 7) (Operand.tmp 16), type := 0, pos := "field.go:152", after := #[{ on := 10, ground := Ground.data }, { on := 4, ground := Ground.data }, { on := 9, ground := Ground.chain }, { on := 0, ground := Ground.phase }, { on := 1, ground := Ground.phase }, { on := 2, ground := Ground.phase }, { on := 3, ground := Ground.phase }, { on := 4, ground := Ground.phase }, { on := 5, ground := Ground.textOnly Departure.lateStores }, { on := 6, ground := Ground.textOnly Departure.lateStores }, { on := 7, ground := Ground.textOnly Departure.lateStores }, { on := 8, ground := Ground.textOnly Departure.lateStores }, { on := 9, ground := Ground.textOnly Departure.lateStoresUnsure }, { on := 10, ground := Ground.phase }, { on := 11, ground := Ground.phase }], guard := none }) rfl (fun K hK => ?_) AllReadyH.nil
        go_simp
        rw [stP_run (P := Tryd.prog) HSI.out.wr1]
        replace HSI := Lib.hid (HSI.out.put1 (dF p a))
        clear hHeld
        go_simp
        refine hK.out _ _ HSI.out.cell (fun hHeld => ?_)
        clear hK K hHeld
        obtain ⟨W4, hW4⟩ : ∃ Wn, Wn = stP (W3) b7 (dF p a) := ⟨_, rfl⟩
        rw [← hW4] at HSI ⊢
        clear hW4
        have hHeld := HSI.out.cell
        try simp only [Act.put]
        refine wpAnyH_ready (rs := [13]) (by kernel_rfl) (by simp) ?_
        refine AllReadyH.cons (o := { dst := none, op := Op.store 89 (Operand.tmp 8) (Operand.tmp 21), type := 0, pos := "field.go:152", after := #[{ on := 11, ground := Ground.data }, { on := 9, ground := Ground.data }, { on := 12, ground := Ground.chain }, { on := 0, ground := Ground.phase }, { on := 1, ground := Ground.phase }, { on := 2, ground := Ground.phase }, { on := 3, ground := Ground.phase }, { on := 4, ground := Ground.phase }, { on := 5, ground := Ground.phase }, { on := 6, ground := Ground.phase }, { on := 7, ground := Ground.phase }, { on := 8, ground := Ground.phase }, { on := 9, ground := Ground.phase }, { on := 10, ground := Ground.phase }, { on := 11, ground := Ground.phase }, { on := 12, ground := Ground.phase }], guard := none }) rfl (fun K hK => ?_) AllReadyH.nil
        go_simp
        rw [stP_run (P := Tryd.prog) HSI.out.wr2]
        replace HSI := Lib.hid (HSI.out.put2 (dF p b))
        clear hHeld
        go_simp
        refine hK.out _ _ HSI.out.cell (fun hHeld => ?_)
        clear hK K hHeld
        obtain ⟨W4, hW4⟩ : ∃ Wn, Wn = stP (W4) b8 (dF p b) := ⟨_, rfl⟩
        rw [← hW4] at HSI ⊢
        clear hW4
        have hHeld := HSI.out.cell
        try simp only [Act.put]
        refine wpAnyH_done (by kernel_rfl) ?_ _
        refine NoPanic.normal ?_
        go_wp2_with fail
        go_meet
        exact ⟨b7, b8, rfl, rfl, HSI.out.two⟩
      refine AllReadyH.cons (o := { dst := some 7, op := Op.alloc 89, type := 0, pos := "field.go:152", after := #[], guard := none }) rfl (fun K hK => ?_) AllReadyH.nil
      go_simp
      replace HSI := Lib.hid (HSI.out.make1 89)
      clear hHeld
      refine hK.out _ _ HSI.out.cell (fun hHeld => ?_)
      clear hK K hHeld
      obtain ⟨b7, hbk⟩ : ∃ b, b = (W2).heap.size := ⟨_, rfl⟩
      obtain ⟨W3, hW3⟩ : ∃ Wn, Wn = (W2).alloc (.cells polyZ 89) := ⟨_, rfl⟩
      rw [← hW3] at HSI ⊢
      rw [← hbk] at HSI ⊢
      clear hW3 hbk
      have hHeld := HSI.out.cell
      try simp only [Act.put, List.setIfInBounds_toArray, List.set_cons_zero, List.set_cons_succ]
      refine wpAnyH_ready (rs := [9]) (by kernel_rfl) (by simp) ?_
      refine AllReadyH.cons (o := { dst := some 21, op := Op.call { callee := Callee.value (Operand.func 68), args := #[Operand.tmp 19, Operand.tmp 20], argTypes := #[3, 3] }, type := 89, pos := "field.go:152", after := #[{ on := 7, ground := Ground.data }, { on := 8, ground := Ground.data }, { on := 4, ground := Ground.chain }], guard := none }) rfl (fun K hK => ?_) AllReadyH.nil
      go_simp
      refine (HD2.out _).mono ?_
      rintro e W2 ⟨rfl, hbl⟩
      replace HSI := Lib.hid (HSI.out.call hbl)
      clear hbl hHeld
      go_simp
      refine hK.out _ _ HSI.out.cell (fun hHeld => ?_)
      clear hK K
      try simp only [Act.put, List.setIfInBounds_toArray, List.set_cons_zero, List.set_cons_succ]
      refine wpAnyH_ready (rs := [12]) (by kernel_rfl) (by simp) ?_
      refine AllReadyH.cons (o := { dst := none, op := Op.store 89 (Operand.tmp 7) (Operand.tmp 16), type := 0, pos := "field.go:152", after := #[{ on := 10, ground := Ground.data }, { on := 4, ground := Ground.data }, { on := 9, ground := Ground.chain }, { on := 0, ground := Ground.phase }, { on := 1, ground := Ground.phase }, { on := 2, ground := Ground.phase }, { on := 3, ground := Ground.phase }, { on := 4, ground := Ground.phase }, { on := 5, ground := Ground.textOnly Departure.lateStores }, { on := 6, ground := Ground.textOnly Departure.lateStores }, { on := 7, ground := Ground.textOnly Departure.lateStores }, { on := 8, ground := Ground.textOnly Departure.lateStores }, { on := 9, ground := Ground.textOnly Departure.lateStoresUnsure }, { on := 10, ground := Ground.phase }, { on := 11, ground := Ground.phase }], guard := none }) rfl (fun K hK => ?_) AllReadyH.nil
      go_simp
      rw [stP_run (P := Tryd.prog) HSI.out.wr1]
      replace HSI := Lib.hid (HSI.out.put1 (dF p a))
      clear hHeld
      go_simp
      refine hK.out _ _ HSI.out.cell (fun hHeld => ?_)
      clear hK K hHeld
      obtain ⟨W4, hW4⟩ : ∃ Wn, Wn = stP (W2) b7 (dF p a) := ⟨_, rfl⟩
      rw [← hW4] at HSI ⊢
      clear hW4
      have hHeld := HSI.out.cell
      try simp only [Act.put]
      refine wpAnyH_ready (rs := [13]) (by kernel_rfl) (by simp) ?_
      refine AllReadyH.cons (o := { dst := none, op := Op.store 89 (Operand.tmp 8) (Operand.tmp 21), type := 0, pos := "field.go:152", after := #[{ on := 11, ground := Ground.data }, { on := 9, ground := Ground.data }, { on := 12, ground := Ground.chain }, { on := 0, ground := Ground.phase }, { on := 1, ground := Ground.phase }, { on := 2, ground := Ground.phase }, { on := 3, ground := Ground.phase }, { on := 4, ground := Ground.phase }, { on := 5, ground := Ground.phase }, { on := 6, ground := Ground.phase }, { on := 7, ground := Ground.phase }, { on := 8, ground := Ground.phase }, { on := 9, ground := Ground.phase }, { on := 10, ground := Ground.phase }, { on := 11, ground := Ground.phase }, { on := 12, ground := Ground.phase }], guard := none }) rfl (fun K hK => ?_) AllReadyH.nil
      go_simp
      rw [stP_run (P := Tryd.prog) HSI.out.wr2]
      replace HSI := Lib.hid (HSI.out.put2 (dF p b))
      clear hHeld
      go_simp
      refine hK.out _ _ HSI.out.cell (fun hHeld => ?_)
      clear hK K hHeld
      obtain ⟨W4, hW4⟩ : ∃ Wn, Wn = stP (W4) b8 (dF p b) := ⟨_, rfl⟩
      rw [← hW4] at HSI ⊢
      clear hW4
      have hHeld := HSI.out.cell
      try simp only [Act.put]
      refine wpAnyH_done (by kernel_rfl) ?_ _
      refine NoPanic.normal ?_
      go_wp2_with fail
      go_meet
      exact ⟨b7, b8, rfl, rfl, HSI.out.two⟩
    refine AllReadyH.cons (o := { dst := some 7, op := Op.alloc 89, type := 0, pos := "field.go:152", after := #[], guard := none }) rfl (fun K hK => ?_) AllReadyH.nil
    go_simp
    replace HSI := Lib.hid (HSI.out.make1 89)
    clear hHeld
    refine hK.out _ _ HSI.out.cell (fun hHeld => ?_)
    clear hK K hHeld
    obtain ⟨b7, hbk⟩ : ∃ b, b = (W3).heap.size := ⟨_, rfl⟩
    obtain ⟨W3, hW3⟩ : ∃ Wn, Wn = (W3).alloc (.cells polyZ 89) := ⟨_, rfl⟩
    rw [← hW3] at HSI ⊢
    rw [← hbk] at HSI ⊢
    clear hW3 hbk
    have hHeld := HSI.out.cell
    try simp only [Act.put, List.setIfInBounds_toArray, List.set_cons_zero, List.set_cons_succ]
    refine wpAnyH_ready (rs := [4]) (by kernel_rfl) (by simp) ?_
    refine AllReadyH.cons (o := { dst := some 16, op := Op.call { callee := Callee.value (Operand.func 68), args := #[Operand.tmp 14, Operand.tmp 15], argTypes := #[3, 3] }, type := 89, pos := "field.go:152", after := #[{ on := 2, ground := Ground.data }, { on := 3, ground := Ground.data }], guard := none }) rfl (fun K hK => ?_) AllReadyH.nil
    go_simp
    refine (HD1.out _).mono ?_
    rintro e W2 ⟨rfl, hbl⟩
    replace HSI := Lib.hid (HSI.out.call hbl)
    clear hbl hHeld
    go_simp
    refine hK.out _ _ HSI.out.cell (fun hHeld => ?_)
    clear hK K
    try simp only [Act.put, List.setIfInBounds_toArray, List.set_cons_zero, List.set_cons_succ]
    refine wpAnyH_ready (rs := [9]) (by kernel_rfl) (by simp) ?_
    refine AllReadyH.cons (o := { dst := some 21, op := Op.call { callee := Callee.value (Operand.func 68), args := #[Operand.tmp 19, Operand.tmp 20], argTypes := #[3, 3] }, type := 89, pos := "field.go:152", after := #[{ on := 7, ground := Ground.data }, { on := 8, ground := Ground.data }, { on := 4, ground := Ground.chain }], guard := none }) rfl (fun K hK => ?_) AllReadyH.nil
    go_simp
    refine (HD2.out _).mono ?_
    rintro e W2 ⟨rfl, hbl⟩
    replace HSI := Lib.hid (HSI.out.call hbl)
    clear hbl hHeld
    go_simp
    refine hK.out _ _ HSI.out.cell (fun hHeld => ?_)
    clear hK K
    try simp only [Act.put, List.setIfInBounds_toArray, List.set_cons_zero, List.set_cons_succ]
    refine wpAnyH_ready (rs := [12]) (by kernel_rfl) (by simp) ?_
    refine AllReadyH.cons (o := { dst := none, op := Op.store 89 (Operand.tmp 7) (Operand.tmp 16), type := 0, pos := "field.go:152", after := #[{ on := 10, ground := Ground.data }, { on := 4, ground := Ground.data }, { on := 9, ground := Ground.chain }, { on := 0, ground := Ground.phase }, { on := 1, ground := Ground.phase }, { on := 2, ground := Ground.phase }, { on := 3, ground := Ground.phase }, { on := 4, ground := Ground.phase }, { on := 5, ground := Ground.textOnly Departure.lateStores }, { on := 6, ground := Ground.textOnly Departure.lateStores }, { on := 7, ground := Ground.textOnly Departure.lateStores }, { on := 8, ground := Ground.textOnly Departure.lateStores }, { on := 9, ground := Ground.textOnly Departure.lateStoresUnsure }, { on := 10, ground := Ground.phase }, { on := 11, ground := Ground.phase }], guard := none }) rfl (fun K hK => ?_) AllReadyH.nil
    go_simp
    rw [stP_run (P := Tryd.prog) HSI.out.wr1]
    replace HSI := Lib.hid (HSI.out.put1 (dF p a))
    clear hHeld
    go_simp
    refine hK.out _ _ HSI.out.cell (fun hHeld => ?_)
    clear hK K hHeld
    obtain ⟨W4, hW4⟩ : ∃ Wn, Wn = stP (W2) b7 (dF p a) := ⟨_, rfl⟩
    rw [← hW4] at HSI ⊢
    clear hW4
    have hHeld := HSI.out.cell
    try simp only [Act.put]
    refine wpAnyH_ready (rs := [13]) (by kernel_rfl) (by simp) ?_
    refine AllReadyH.cons (o := { dst := none, op := Op.store 89 (Operand.tmp 8) (Operand.tmp 21), type := 0, pos := "field.go:152", after := #[{ on := 11, ground := Ground.data }, { on := 9, ground := Ground.data }, { on := 12, ground := Ground.chain }, { on := 0, ground := Ground.phase }, { on := 1, ground := Ground.phase }, { on := 2, ground := Ground.phase }, { on := 3, ground := Ground.phase }, { on := 4, ground := Ground.phase }, { on := 5, ground := Ground.phase }, { on := 6, ground := Ground.phase }, { on := 7, ground := Ground.phase }, { on := 8, ground := Ground.phase }, { on := 9, ground := Ground.phase }, { on := 10, ground := Ground.phase }, { on := 11, ground := Ground.phase }, { on := 12, ground := Ground.phase }], guard := none }) rfl (fun K hK => ?_) AllReadyH.nil
    go_simp
    rw [stP_run (P := Tryd.prog) HSI.out.wr2]
    replace HSI := Lib.hid (HSI.out.put2 (dF p b))
    clear hHeld
    go_simp
    refine hK.out _ _ HSI.out.cell (fun hHeld => ?_)
    clear hK K hHeld
    obtain ⟨W4, hW4⟩ : ∃ Wn, Wn = stP (W4) b8 (dF p b) := ⟨_, rfl⟩
    rw [← hW4] at HSI ⊢
    clear hW4
    have hHeld := HSI.out.cell
    try simp only [Act.put]
    refine wpAnyH_done (by kernel_rfl) ?_ _
    refine NoPanic.normal ?_
    go_wp2_with fail
    go_meet
    exact ⟨b7, b8, rfl, rfl, HSI.out.two⟩
  case rest =>
    obtain ⟨b7, b8, rfl, rfl, hT⟩ := hcut
    have hp0 : ¬ p = 0 := by omega
    have HT := Lib.hid (MulRel.begin hT 89)
    obtain ⟨r0, r1, r2, r3⟩ := hT.room
    have hlw : w.heap.size < wc.heap.size := Arr.lt hT.rm
    have hlw2 : w.heap.size ≠ wc.heap.size := by omega
    clear HSI HD1 HD2 hW hT
    go_wp2_with fail
    clear r0 r1 r2 r3 hlw hlw2
    obtain ⟨b9, hb9⟩ : ∃ b9, b9 = wc.heap.size := ⟨_, rfl⟩
    obtain ⟨W, hW⟩ : ∃ W, W = wc.alloc (.cells polyZ 89) := ⟨_, rfl⟩
    rw [← hb9, ← hW] at HT
    rw [← hb9, ← hW]
    clear hb9 hW
    go_loopw [10, 11, 25, 31] (fun _ _ u _ wr => ∃ i : Nat, i ≤ d ∧ u = .int .i64 i ∧ MulRel w wr p d q (.slice sa low.length sc) b7 b8 b9 (shN p d (lF low) (dF p a) i) (dF p b) (outF p d (lF low) (dF p a) (dF p b) i)) (fun _ _ u _ _ => d - (intOf u).toNat)
    case atStart => exact ⟨0, by omega, rfl, HT.out⟩
    case round =>
      clear HT
      obtain ⟨i, hi, rfl, hR⟩ := hrel
      have HR := Lib.hid hR; clear hR
      obtain ⟨r0, r1, r2, r3⟩ := HR.out.two.room
      by_cases hlt : i < d
      · obtain ⟨X, hX⟩ : ∃ X, X = shN p d (lF low) (dF p a) i := ⟨_, rfl⟩
        obtain ⟨O, hO⟩ : ∃ O, O = outF p d (lF low) (dF p a) (dF p b) i := ⟨_, rfl⟩
        have hXl : ∀ j, X j < p := fun j => by rw [hX]; exact shN_lt (by omega) (fun j => dF_lt (by omega)) i j
        have hOl : ∀ j, O j < p := fun j => by rw [hO]; exact outF_lt (by omega) i j
        have HO2 : Hid (∀ j, muF p O X (dF p b i) d j = outF p d (lF low) (dF p a) (dF p b) (i + 1) j) := fun j => by rw [hO, hX]; exact muF_done p d (lF low) (dF p a) (dF p b) i j
        have HX2 : Hid (shF p d (lF low) X = shN p d (lF low) (dF p a) (i + 1)) := by show _ = _; rw [hX]; rfl
        have HXl := Lib.hid hXl; have HOl := Lib.hid hOl
        rw [← hX, ← hO] at HR
        clear hX hO hXl hOl
        have hi7 : (i : Int) < 7 := by omega
        go_wp2_with fail
        go_loopw [11, 31] (fun _ u wr => ∃ k : Nat, k ≤ d ∧ u = .int .i64 k ∧ MulRel w wr p d q (.slice sa low.length sc) b7 b8 b9 X (dF p b) (muF p O X (dF p b i) k)) (fun _ u _ => d - (intOf u).toNat)
        case atStart => exact ⟨0, by omega, rfl, HR.out.congr fun j _ => by unfold muF; rw [if_neg (by omega)]⟩
        case round =>
          clear HR r0 r1 r2 r3
          obtain ⟨k, hk, rfl, hR⟩ := hrel
          have HR := Lib.hid hR; clear hR
          obtain ⟨r0, r1, r2, r3⟩ := HR.out.two.room
          by_cases hkt : k < d
          · obtain ⟨c1, c2⟩ := HR.out.po.old (show k < 7 by omega)
            have c3 := (HR.out.two.px.old (show k < 7 by omega)).1
            have c4 := (HR.out.two.py.old (show i < 7 by omega)).1
            have e1 : muF p O X (dF p b i) k k = O k := by unfold muF; rw [if_neg (by omega)]
            rw [e1] at c1
            have hy : dF p b i < p := dF_lt (by omega)
            obtain ⟨v1, v2, v3⟩ := prod_vals (p := p) (by omega) (HOl.out k) (HXl.out k) hy
            have hob := HOl.out k
            have HSR : Hid (((O k + X k * dF p b i : Nat) : Int) % (p : Int) = (((O k + X k * dF p b i) % p : Nat) : Int)) := (Int.natCast_emod _ _).symm
            have HPut : Hid (MulRel w (wr.setCell ⟨b9, k, none⟩ (.int .i64 (((O k + X k * dF p b i : Nat) : Int) % (p : Int)))).drew p d q (.slice sa low.length sc) b7 b8 b9 X (dF p b) (muF p O X (dF p b i) (k + 1))) := by
              show MulRel _ _ _ _ _ _ _ _ _ _ _ _
              rw [HSR.out]
              exact MulRel.step ((HR.out.put (show k < 7 by omega) _).congr fun j _ => muF_next p O X (dF p b i) k j) (below_D _ 1)
            have hk7 : (k : Int) < 7 := by omega
            have hm : X k * dF p b i ≤ 64 * 64 := Nat.mul_le_mul (by have := HXl.out k; omega) (by omega)
            clear e1 HSR
            generalize X k * dF p b i = M at *
            have hs : O k + M ≤ 5000 := by omega
            generalize O k + M = S at *
            generalize O k = OO at *
            generalize X k = XX at *
            generalize dF p b i = YY at *
            go_wp2_with fail
            go_region
            all_goals
              clear v1 v2 v3 c1 c2 c3 c4 r0 r1 r2 r3
              go_wp2_with fail
              go_roundw
              case rel => exact ⟨k + 1, by omega, by go_num, HPut.out⟩
              case measure => simp [intOf]; omega
          · obtain rfl : k = d := by omega
            have HPX : Hid (PolyAt wr b7 X) := HR.out.two.px
            have HIw := Lib.hid (HI.out.below HR.out.two.bel)
            have HSh := Lib.hid (shift_any p k q (.slice sa low.length sc) low X wr HIw.out HF.out HXl.out)
            unfold roomV fV at HSh
            go_wp2_with (first | (with_reducible refine wpList_load_tab rfl 89 _ rfl _ rfl HPX.out Tryd.underlying89 rfl (by kernel_rfl) ?_) | (go_at_call 69; refine (HSh.out).mono ?_; rintro e w2 ⟨rfl, hb2⟩; have HR2 := Lib.hid (HR.out.step hb2); have hst := stP_run (P := Tryd.prog) ⟨_, HR2.out.two.px⟩ (shF p k (lF low) X); clear hb2))
            have HR3 : Hid (MulRel w (stP w2 b7 (shF p k (lF low) X)) p k q (.slice sa low.length sc) b7 b8 b9 (shN p k (lF low) (dF p a) (i + 1)) (dF p b) (outF p k (lF low) (dF p a) (dF p b) (i + 1))) := by
              show MulRel _ _ _ _ _ _ _ _ _ _ _ _
              rw [← HX2.out]
              exact (HR2.out.turn _).congr fun j _ => HO2.out j
            clear hst
            go_roundw
            case rel => exact ⟨i + 1, by omega, by go_num, HR3.out⟩
            case measure => simp [intOf]; omega
      · obtain rfl : i = d := by omega
        have HPO : Hid (PolyAt wr b9 (outF p i (lF low) (dF p a) (dF p b) i)) := HR.out.po
        have HNum := Lib.hid (number_any p i q (.slice sa low.length sc) (outF p i (lF low) (dF p a) (dF p b) i) wr hp (by omega) hd1 hd6 HF.out.q64 (fun j => outF_lt (by omega) i j) ⟨_, _, _, rfl⟩)
        unfold roomV fV at HNum
        go_wp2_with (first | (with_reducible refine wpList_load_tab rfl 89 _ rfl _ rfl HPO.out Tryd.underlying89 rfl (by kernel_rfl) ?_) | (go_at_call 70; refine (HNum.out).mono ?_; rintro e w2 ⟨rfl, hb2⟩; have HB2 := Lib.hid hb2; clear hb2))
        go_ret
        exact ⟨rfl, belowTrans HR.out.two.bel HB2.out⟩
end Go.Proofs.YtdbfpdhcaiiiaaaDoor
