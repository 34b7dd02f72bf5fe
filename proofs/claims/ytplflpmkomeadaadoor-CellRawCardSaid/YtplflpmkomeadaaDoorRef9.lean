/- Package part and the specification of layer 9: ValidFault. -/
import Derived.Test.YtplflpmkomeadaaDoorRef8
namespace Go.Proofs.YtplflpmkomeadaaDoor
set_option linter.unusedSimpArgs false
set_option linter.unusedVariables false
open Go.RowKit
set_option maxRecDepth 100000
attribute [local go_sem] lt_more ne_more ne_more'
attribute [local irreducible] wpX

theorem gives_of {P : Program} {f : FuncId} {args : Array Value} {w : World} {v : Value} (h : Calls P f args w fun e w' => e = .returned v ∧ w = w') : Calls P f args w (Gives v w) :=
  h.mono fun _ _ ⟨he, hw⟩ => ⟨he, hw ▸ Below.refl _ _⟩

theorem ixN (a0 a1 a2 a3 a4 a5 : Int) {i : Nat} (hi : i < 6) (w : World) : (Instr.index 79 (v6 a0 a1 a2 a3 a4 a5) (.int .i64 i)).run Tryd.prog w = .ok (.int .i64 (pick6 a0 a1 a2 a3 a4 a5 i)) w := by
  have : i = 0 ∨ i = 1 ∨ i = 2 ∨ i = 3 ∨ i = 4 ∨ i = 5 := by omega
  rcases this with rfl | rfl | rfl | rfl | rfl | rfl
  · exact ix0 _ _ _ _ _ _ w
  · exact ix1 _ _ _ _ _ _ w
  · exact ix2 _ _ _ _ _ _ w
  · exact ix3 _ _ _ _ _ _ w
  · exact ix4 _ _ _ _ _ _ w
  · exact ix5 _ _ _ _ _ _ w

/-- Is it a valid place, of a valid shape? -/
theorem validPlace_all (a0 a1 a2 a3 a4 a5 p0 p1 p2 p3 p4 p5 : Int) (w : World) : Calls Tryd.prog 77 #[v6 a0 a1 a2 a3 a4 a5, v6 p0 p1 p2 p3 p4 p5] w (Gives (.bool (decide (SV a0 a1 a2 a3 a4 a5 ∧ PV a0 a1 a2 a3 a4 a5 p0 p1 p2 p3 p4 p5))) w) := by
  by_cases h : SV a0 a1 a2 a3 a4 a5
  · have := validPlace_any (p0 := p0) (p1 := p1) (p2 := p2) (p3 := p3) (p4 := p4) (p5 := p5) h w
    simpa [h] using this
  · have := validPlace_no (p0 := p0) (p1 := p1) (p2 := p2) (p3 := p3) (p4 := p4) (p5 := p5) h w
    simpa [h] using this
theorem rvalidPlace_all (a0 a1 a2 a3 a4 a5 p0 p1 p2 p3 p4 p5 : Int) (w : World) : Calls Tryd.prog 92 #[v6 a0 a1 a2 a3 a4 a5, v6 p0 p1 p2 p3 p4 p5] w (Gives (.bool (decide (SV a0 a1 a2 a3 a4 a5 ∧ PV a0 a1 a2 a3 a4 a5 p0 p1 p2 p3 p4 p5))) w) := by
  by_cases h : SV a0 a1 a2 a3 a4 a5
  · have := rvalidPlace_any (p0 := p0) (p1 := p1) (p2 := p2) (p3 := p3) (p4 := p4) (p5 := p5) h w
    simpa [h] using this
  · have := rvalidPlace_no (p0 := p0) (p1 := p1) (p2 := p2) (p3 := p3) (p4 := p4) (p5 := p5) h w
    simpa [h] using this

/-- The numbers of a place that a fault of kind k does not name are 0. -/
def Unnamed (k p0 p1 p2 p3 p4 p5 : Int) : Prop := ∀ i, i < 6 → nmB k i = false → pick6 p0 p1 p2 p3 p4 p5 i = 0
instance (k p0 p1 p2 p3 p4 p5 : Int) : Decidable (Unnamed k p0 p1 p2 p3 p4 p5) := by unfold Unnamed; infer_instance

/-- What ValidFault answers for a known kind and a valid place. -/
def vfB (n k p0 p1 p2 p3 p4 p5 ch ms vl : Int) (hd : Bool) : Bool :=
  decide (Unnamed k p0 p1 p2 p3 p4 p5) && decide (0 ≤ ch) && decide (ch < n) && (ms != 0) && (bits BinOp.andNot .u8 vl ms == 0) && (hd || vl == 0)

theorem vfault_kind (a0 a1 a2 a3 a4 a5 n k p0 p1 p2 p3 p4 p5 ch ms vl : Int) (hd : Bool) (hk : ¬ (1 ≤ k ∧ k ≤ 6)) (w : World) :
    Calls Tryd.prog 42 #[v6 a0 a1 a2 a3 a4 a5, .int .i64 n, vF k p0 p1 p2 p3 p4 p5 ch ms vl hd] w (Gives (.bool false) w) := by
  go_enter Tryd.func42, Tryd.ntmps42
  have H := HS.start NoD w
  go_wp2_with fail
  refine (gives_of (known_no _ hk _)).mono ?_
  rintro _ w1 ⟨rfl, hb⟩
  replace H := H.alloc.alloc.below hb
  clear hb
  try clear C
  try simp only [World.size_alloc, List.nil_append, List.cons_append, List.append_assoc] at H
  generalize w.heap.size + 1 = bF at H ⊢
  generalize w.heap.size = bS at H ⊢
  have C := H.cells
  try simp only [cellsOf, cellsM, apartOf, apartM, and_true] at C
  dsimp only
  go_wp2_with fail
  go_ret
  exact ⟨rfl, by (first | exact H.done | exact H.skipAlloc.done | exact H.skipAlloc.skipAlloc.done | exact H.skipAlloc.skipAlloc.skipAlloc.done)⟩
theorem vfault_place (a0 a1 a2 a3 a4 a5 n k p0 p1 p2 p3 p4 p5 ch ms vl : Int) (hd : Bool) (hk : 1 ≤ k ∧ k ≤ 6) (hp : ¬ (SV a0 a1 a2 a3 a4 a5 ∧ PV a0 a1 a2 a3 a4 a5 p0 p1 p2 p3 p4 p5)) (w : World) :
    Calls Tryd.prog 42 #[v6 a0 a1 a2 a3 a4 a5, .int .i64 n, vF k p0 p1 p2 p3 p4 p5 ch ms vl hd] w (Gives (.bool false) w) := by
  have hv : ∀ w, Calls Tryd.prog 77 #[v6 a0 a1 a2 a3 a4 a5, v6 p0 p1 p2 p3 p4 p5] w (Gives (.bool false) w) := fun w => by
    have := validPlace_all a0 a1 a2 a3 a4 a5 p0 p1 p2 p3 p4 p5 w
    rwa [decide_eq_false hp] at this
  have HV := Lib.hid hv
  clear hv hp
  go_enter Tryd.func42, Tryd.ntmps42
  have H := HS.start NoD w
  go_wp2_with fail
  refine (gives_of (known_yes _ hk _)).mono ?_
  rintro _ w1 ⟨rfl, hb⟩
  replace H := H.alloc.alloc.below hb
  clear hb
  try clear C
  try simp only [World.size_alloc, List.nil_append, List.cons_append, List.append_assoc] at H
  generalize w.heap.size + 1 = bF at H ⊢
  generalize w.heap.size = bS at H ⊢
  have C := H.cells
  try simp only [cellsOf, cellsM, apartOf, apartM, and_true] at C
  dsimp only
  go_wp2_with fail
  refine (HV.out _).mono ?_
  rintro _ w2 ⟨rfl, hb⟩
  replace H := H.below hb
  clear hb
  try clear C
  try simp only [World.size_alloc, List.nil_append, List.cons_append, List.append_assoc] at H
  try clear w1
  have C := H.cells
  try simp only [cellsOf, cellsM, apartOf, apartM, and_true] at C
  dsimp only
  go_wp2_with fail
  go_ret
  exact ⟨rfl, by (first | exact H.done | exact H.skipAlloc.done | exact H.skipAlloc.skipAlloc.done | exact H.skipAlloc.skipAlloc.skipAlloc.done)⟩
set_option maxHeartbeats 8000000 in
theorem vfault_rest (a0 a1 a2 a3 a4 a5 n k p0 p1 p2 p3 p4 p5 ch ms vl : Int) (hd : Bool) (hk : 1 ≤ k ∧ k ≤ 6) (hp : SV a0 a1 a2 a3 a4 a5 ∧ PV a0 a1 a2 a3 a4 a5 p0 p1 p2 p3 p4 p5) (w : World) (hN : Nm w) :
    Calls Tryd.prog 42 #[v6 a0 a1 a2 a3 a4 a5, .int .i64 n, vF k p0 p1 p2 p3 p4 p5 ch ms vl hd] w (Gives (.bool (vfB n k p0 p1 p2 p3 p4 p5 ch ms vl hd)) w) := by
  have hv : ∀ w, Calls Tryd.prog 77 #[v6 a0 a1 a2 a3 a4 a5, v6 p0 p1 p2 p3 p4 p5] w (Gives (.bool true) w) := fun w => by
    have := validPlace_all a0 a1 a2 a3 a4 a5 p0 p1 p2 p3 p4 p5 w
    rwa [decide_eq_true hp] at this
  have HV := Lib.hid hv
  clear hv hp
  obtain ⟨m, rfl⟩ : ∃ m : Nat, k = m := ⟨k.toNat, by omega⟩
  go_enter Tryd.func42, Tryd.ntmps42
  have H := HS.start NoD w
  go_wp2_with fail
  refine (gives_of (known_yes _ hk _)).mono ?_
  rintro _ w1 ⟨rfl, hb⟩
  replace H := H.alloc.alloc.below hb
  clear hb
  try clear C
  try simp only [World.size_alloc, List.nil_append, List.cons_append, List.append_assoc] at H
  generalize w.heap.size + 1 = bF at H ⊢
  generalize w.heap.size = bS at H ⊢
  have C := H.cells
  try simp only [cellsOf, cellsM, apartOf, apartM, and_true] at C
  dsimp only
  go_wp2_with fail
  refine (HV.out _).mono ?_
  rintro _ w2 ⟨rfl, hb⟩
  replace H := H.below hb
  clear hb
  try clear C
  try simp only [World.size_alloc, List.nil_append, List.cons_append, List.append_assoc] at H
  try clear w1
  have C := H.cells
  try simp only [cellsOf, cellsM, apartOf, apartM, and_true] at C
  dsimp only
  go_wp2_with fail
  refine (numbers_any _ _ _ _ _ _ _).mono ?_
  rintro _ w3 ⟨rfl, hb⟩
  replace H := H.below hb
  clear hb
  try clear C
  try simp only [World.size_alloc, List.nil_append, List.cons_append, List.append_assoc] at H
  try clear w2
  have C := H.cells
  try simp only [cellsOf, cellsM, apartOf, apartM, and_true] at C
  dsimp only
  go_wp2_with fail
  go_loopw [23] (fun c wr => ∃ i : Nat, i ≤ 6 ∧ c = .int .i64 i ∧ HS NoD w [.blk bS #[.int .i64 a0, .int .i64 a1, .int .i64 a2, .int .i64 a3, .int .i64 a4, .int .i64 a5] 28, .blk bF #[.int .i64 m, .int .i64 p0, .int .i64 p1, .int .i64 p2, .int .i64 p3, .int .i64 p4, .int .i64 p5, .int .i64 ch, .int .u8 ms, .int .u8 vl, .bool hd] 38] wr ∧ ∀ j, j < i → nmB m j = false → pick6 p0 p1 p2 p3 p4 p5 j = 0) (fun c _ => 6 - (intOf c).toNat)
  case atStart => exact ⟨0, by decide, rfl, H, fun j hj => absurd hj (Nat.not_lt_zero _)⟩
  case round =>
    clear H C w3
    obtain ⟨i, hi, rfl, H, hall⟩ := hrel
    have HALL := Lib.hid hall
    clear hall
    try clear C
    try simp only [World.size_alloc, List.nil_append, List.cons_append, List.append_assoc] at H
    have C := H.cells
    try simp only [cellsOf, cellsM, apartOf, apartM, and_true] at C
    by_cases hi6 : i < 6
    · have hix := ixN p0 p1 p2 p3 p4 p5 hi6
      have cT : wr.cell? ⟨0, m * 6 + i, none⟩ = some (.bool (nmB m i)) := (H.was (p := ⟨0, m * 6 + i, none⟩) hN.lt id).trans (by rw [Nat.mul_comm]; exact hN m (by omega) (by omega) i hi6)
      obtain ⟨x, hx⟩ : ∃ x, x = pick6 p0 p1 p2 p3 p4 p5 i := ⟨_, rfl⟩
      rw [← hx] at hix
      have HX := Lib.hid hx
      clear hx
      by_cases hx0 : x = 0
      · have hb : (x != 0) = false := by simp [hx0]
        go_wp2_with fail
        go_roundw
        case rel =>
          refine ⟨i + 1, by omega, by go_num, H, fun j hj hjn => ?_⟩
          by_cases e : j = i
          · subst e; rw [← HX.out, hx0]
          · exact HALL.out j (by omega) hjn
        case measure => simp [intOf]; omega
      · have hb : (x != 0) = true := by simpa using hx0
        cases hn : nmB m i
        · rw [hn] at cT
          go_wp2_with fail
          go_ret
          refine ⟨ret_bool ?_, H.done⟩
          have hu : ¬ Unnamed m p0 p1 p2 p3 p4 p5 := fun h => hx0 (by rw [HX.out]; exact h i hi6 hn)
          simp [vfB, hu]
        · rw [hn] at cT
          go_wp2_with fail
          go_roundw
          case rel =>
            refine ⟨i + 1, by omega, by go_num, H, fun j hj hjn => ?_⟩
            by_cases e : j = i
            · subst e; rw [hn] at hjn; cases hjn
            · exact HALL.out j (by omega) hjn
          case measure => simp [intOf]; omega
    · have hie : i = 6 := by omega
      subst hie
      go_wp2_with fail
      all_goals go_ret
      all_goals have hu : Unnamed m p0 p1 p2 p3 p4 p5 := HALL.out
      all_goals exact ⟨ret_bool (by first | (simp [vfB, *]; done) | (simp [vfB, *]; exact hu) | (cases hd <;> simp_all [vfB]; done) | (simp [vfB, *] <;> intros <;> omega)), H.done⟩

/-- What ValidFault answers. -/
def vfAll (a0 a1 a2 a3 a4 a5 n k p0 p1 p2 p3 p4 p5 ch ms vl : Int) (hd : Bool) : Bool :=
  decide (1 ≤ k ∧ k ≤ 6) && decide (SV a0 a1 a2 a3 a4 a5 ∧ PV a0 a1 a2 a3 a4 a5 p0 p1 p2 p3 p4 p5) && vfB n k p0 p1 p2 p3 p4 p5 ch ms vl hd
theorem vfault_any (a0 a1 a2 a3 a4 a5 n k p0 p1 p2 p3 p4 p5 ch ms vl : Int) (hd : Bool) (w : World) (hN : Nm w) :
    Calls Tryd.prog 42 #[v6 a0 a1 a2 a3 a4 a5, .int .i64 n, vF k p0 p1 p2 p3 p4 p5 ch ms vl hd] w (Gives (.bool (vfAll a0 a1 a2 a3 a4 a5 n k p0 p1 p2 p3 p4 p5 ch ms vl hd)) w) := by
  unfold vfAll
  by_cases hk : 1 ≤ k ∧ k ≤ 6
  · rw [decide_eq_true hk]
    by_cases hp : SV a0 a1 a2 a3 a4 a5 ∧ PV a0 a1 a2 a3 a4 a5 p0 p1 p2 p3 p4 p5
    · rw [decide_eq_true hp]
      exact vfault_rest a0 a1 a2 a3 a4 a5 n k p0 p1 p2 p3 p4 p5 ch ms vl hd hk hp w hN
    · rw [decide_eq_false hp]
      exact vfault_place a0 a1 a2 a3 a4 a5 n k p0 p1 p2 p3 p4 p5 ch ms vl hd hk hp w
  · rw [decide_eq_false hk]
    exact vfault_kind a0 a1 a2 a3 a4 a5 n k p0 p1 p2 p3 p4 p5 ch ms vl hd hk w

theorem rvfault_kind (a0 a1 a2 a3 a4 a5 n k p0 p1 p2 p3 p4 p5 ch ms vl : Int) (hd : Bool) (hk : ¬ (1 ≤ k ∧ k ≤ 6)) (w : World) :
    Calls Tryd.prog 72 #[v6 a0 a1 a2 a3 a4 a5, .int .i64 n, vF k p0 p1 p2 p3 p4 p5 ch ms vl hd] w (Gives (.bool false) w) := by
  go_enter Tryd.func72, Tryd.ntmps72
  have H := HS.start NoD w
  go_wp2_with fail
  refine (named_no _ hk _).mono ?_
  rintro _ w1 ⟨rfl, hb⟩
  replace H := H.alloc.alloc.below hb
  clear hb
  try clear C
  try simp only [World.size_alloc, List.nil_append, List.cons_append, List.append_assoc] at H
  generalize w.heap.size + 1 = bF at H ⊢
  generalize w.heap.size = bS at H ⊢
  have C := H.cells
  try simp only [cellsOf, cellsM, apartOf, apartM, and_true] at C
  dsimp only
  go_wp2_with fail
  go_ret
  exact ⟨rfl, by (first | exact H.done | exact H.skipAlloc.done | exact H.skipAlloc.skipAlloc.done | exact H.skipAlloc.skipAlloc.skipAlloc.done)⟩
theorem rvfault_place (a0 a1 a2 a3 a4 a5 n k p0 p1 p2 p3 p4 p5 ch ms vl : Int) (hd : Bool) (hk : 1 ≤ k ∧ k ≤ 6) (hp : ¬ (SV a0 a1 a2 a3 a4 a5 ∧ PV a0 a1 a2 a3 a4 a5 p0 p1 p2 p3 p4 p5)) (w : World) :
    Calls Tryd.prog 72 #[v6 a0 a1 a2 a3 a4 a5, .int .i64 n, vF k p0 p1 p2 p3 p4 p5 ch ms vl hd] w (Gives (.bool false) w) := by
  have hv : ∀ w, Calls Tryd.prog 92 #[v6 a0 a1 a2 a3 a4 a5, v6 p0 p1 p2 p3 p4 p5] w (Gives (.bool false) w) := fun w => by
    have := rvalidPlace_all a0 a1 a2 a3 a4 a5 p0 p1 p2 p3 p4 p5 w
    rwa [decide_eq_false hp] at this
  have HV := Lib.hid hv
  clear hv hp
  go_enter Tryd.func72, Tryd.ntmps72
  have H := HS.start NoD w
  go_wp2_with fail
  refine (named_yes _ hk _).mono ?_
  rintro _ w1 ⟨rfl, hb⟩
  replace H := H.alloc.alloc.below hb
  clear hb
  try clear C
  try simp only [World.size_alloc, List.nil_append, List.cons_append, List.append_assoc] at H
  generalize w.heap.size + 1 = bF at H ⊢
  generalize w.heap.size = bS at H ⊢
  have C := H.cells
  try simp only [cellsOf, cellsM, apartOf, apartM, and_true] at C
  dsimp only
  go_wp2_with fail
  refine (HV.out _).mono ?_
  rintro _ w2 ⟨rfl, hb⟩
  replace H := H.alloc.below hb
  clear hb
  try clear C
  try simp only [World.size_alloc, List.nil_append, List.cons_append, List.append_assoc] at H
  generalize w1.heap.size = bN at H ⊢
  try clear w1
  have C := H.cells
  try simp only [cellsOf, cellsM, apartOf, apartM, and_true] at C
  dsimp only
  go_wp2_with fail
  go_ret
  exact ⟨rfl, by (first | exact H.done | exact H.skipAlloc.done | exact H.skipAlloc.skipAlloc.done | exact H.skipAlloc.skipAlloc.skipAlloc.done)⟩
/-- The numbers of a fault besides its place fit. -/
def Fit (n ch ms vl : Int) (hd : Bool) : Prop := 0 ≤ ch ∧ ch < n ∧ ¬ ms = 0 ∧ bits BinOp.andNot .u8 vl ms = 0 ∧ (hd = false → vl = 0)
set_option maxHeartbeats 8000000 in
theorem rvfault_unfit (a0 a1 a2 a3 a4 a5 n k p0 p1 p2 p3 p4 p5 ch ms vl : Int) (hd : Bool) (hk : 1 ≤ k ∧ k ≤ 6) (hp : SV a0 a1 a2 a3 a4 a5 ∧ PV a0 a1 a2 a3 a4 a5 p0 p1 p2 p3 p4 p5) (hf : ¬ Fit n ch ms vl hd) (w : World) :
    Calls Tryd.prog 72 #[v6 a0 a1 a2 a3 a4 a5, .int .i64 n, vF k p0 p1 p2 p3 p4 p5 ch ms vl hd] w (Gives (.bool false) w) := by
  have hv : ∀ w, Calls Tryd.prog 92 #[v6 a0 a1 a2 a3 a4 a5, v6 p0 p1 p2 p3 p4 p5] w (Gives (.bool true) w) := fun w => by
    have := rvalidPlace_all a0 a1 a2 a3 a4 a5 p0 p1 p2 p3 p4 p5 w
    rwa [decide_eq_true hp] at this
  have HV := Lib.hid hv
  have HF := Lib.hid hf
  clear hv hp hf
  go_enter Tryd.func72, Tryd.ntmps72
  have H := HS.start NoD w
  go_wp2_with fail
  refine (named_yes _ hk _).mono ?_
  rintro _ w1 ⟨rfl, hb⟩
  replace H := H.alloc.alloc.below hb
  clear hb
  try clear C
  try simp only [World.size_alloc, List.nil_append, List.cons_append, List.append_assoc] at H
  generalize w.heap.size + 1 = bF at H ⊢
  generalize w.heap.size = bS at H ⊢
  have C := H.cells
  try simp only [cellsOf, cellsM, apartOf, apartM, and_true] at C
  dsimp only
  go_wp2_with fail
  refine (HV.out _).mono ?_
  rintro _ w2 ⟨rfl, hb⟩
  replace H := H.alloc.below hb
  clear hb
  try clear C
  try simp only [World.size_alloc, List.nil_append, List.cons_append, List.append_assoc] at H
  generalize w1.heap.size = bN at H ⊢
  try clear w1
  have C := H.cells
  try simp only [cellsOf, cellsM, apartOf, apartM, and_true] at C
  dsimp only
  go_wp2_with fail
  all_goals first
    | (go_ret; exact ⟨rfl, H.done⟩)
    | (exfalso; have hf := HF.out; simp_all [Fit]; done)
    | (exfalso; have hf := HF.out; simp_all [Fit]; omega)
set_option maxHeartbeats 8000000 in
theorem rvfault_fit (a0 a1 a2 a3 a4 a5 n k p0 p1 p2 p3 p4 p5 ch ms vl : Int) (hd : Bool) (hk : 1 ≤ k ∧ k ≤ 6) (hp : SV a0 a1 a2 a3 a4 a5 ∧ PV a0 a1 a2 a3 a4 a5 p0 p1 p2 p3 p4 p5) (hf : Fit n ch ms vl hd) (w : World) :
    Calls Tryd.prog 72 #[v6 a0 a1 a2 a3 a4 a5, .int .i64 n, vF k p0 p1 p2 p3 p4 p5 ch ms vl hd] w (Gives (.bool (decide (Unnamed k p0 p1 p2 p3 p4 p5))) w) := by
  have hv : ∀ w, Calls Tryd.prog 92 #[v6 a0 a1 a2 a3 a4 a5, v6 p0 p1 p2 p3 p4 p5] w (Gives (.bool true) w) := fun w => by
    have := rvalidPlace_all a0 a1 a2 a3 a4 a5 p0 p1 p2 p3 p4 p5 w
    rwa [decide_eq_true hp] at this
  have HV := Lib.hid hv
  obtain ⟨f1, f2, f3, f4, f5⟩ := hf
  have g1 : decide (ch < 0) = false := decide_eq_false (by omega)
  have g2 : decide (n ≤ ch) = false := decide_eq_false (by omega)
  have g3 : (ms == 0) = false := by simpa using f3
  have g5 : hd = false → (vl != 0) = false := fun h => by simpa using f5 h
  clear hv hp f1 f2 f3 f5
  cases hd
  all_goals (first | (have g6 := g5 rfl; clear g5) | clear g5)
  all_goals (
    go_enter Tryd.func72, Tryd.ntmps72
    have H := HS.start NoD w
    go_wp2_with fail
    refine (named_yes _ hk _).mono ?_
    rintro _ w1 ⟨rfl, hb⟩
    replace H := H.alloc.alloc.below hb
    clear hb
    try clear C
    try simp only [World.size_alloc, List.nil_append, List.cons_append, List.append_assoc] at H
    generalize w.heap.size + 1 = bF at H ⊢
    generalize w.heap.size = bS at H ⊢
    have C := H.cells
    try simp only [cellsOf, cellsM, apartOf, apartM, and_true] at C
    dsimp only
    go_wp2_with fail
    refine (HV.out _).mono ?_
    rintro _ w2 ⟨rfl, hb⟩
    replace H := H.alloc.below hb
    clear hb
    try clear C
    try simp only [World.size_alloc, List.nil_append, List.cons_append, List.append_assoc] at H
    generalize w1.heap.size = bN at H ⊢
    try clear w1
    have C := H.cells
    try simp only [cellsOf, cellsM, apartOf, apartM, and_true] at C
    dsimp only
    go_wp2_with fail
    refine (rnumbers_any _ _ _ _ _ _ _).mono ?_
    rintro _ w3 ⟨rfl, hb⟩
    replace H := H.below hb
    clear hb
    try clear C
    try simp only [World.size_alloc, List.nil_append, List.cons_append, List.append_assoc] at H
    try clear w2
    have C := H.cells
    try simp only [cellsOf, cellsM, apartOf, apartM, and_true] at C
    dsimp only
    go_wp2_with fail
    generalize hwb : w3.alloc _ = w4
    replace H := HS.eqW hwb H.alloc
    try simp only [World.size_alloc, List.nil_append, List.cons_append, List.append_assoc] at H
    clear hwb
    generalize w3.heap.size = b9 at H ⊢
    try clear C
    try clear w3
    have C := H.cells
    try simp only [cellsOf, cellsM, apartOf, apartM, and_true] at C
    replace H := H.less (L' := [.blk bN _ _, .blk b9 _ _]) (by repeat (first | exact .slnil | refine .cons_cons _ ?_ | refine .cons _ ?_))
    try clear C
    clear g1 g2 g3 f4
    try clear g6
    go_loopw [10] (fun c wr => ∃ i : Nat, i ≤ 6 ∧ c = .int .i64 i ∧ HS NoD w [.blk bN #[.bool (nmB k 0), .bool (nmB k 1), .bool (nmB k 2), .bool (nmB k 3), .bool (nmB k 4), .bool (nmB k 5)] 86, .blk b9 #[.int .i64 p0, .int .i64 p1, .int .i64 p2, .int .i64 p3, .int .i64 p4, .int .i64 p5] 79] wr ∧ ∀ j, j < i → nmB k j = false → pick6 p0 p1 p2 p3 p4 p5 j = 0) (fun c _ => 6 - (intOf c).toNat)
    case atStart => exact ⟨0, by decide, rfl, H, fun j hj => absurd hj (Nat.not_lt_zero _)⟩
    case round =>
      clear H w4
      obtain ⟨i, hi, rfl, H, hall⟩ := hrel
      have HALL := Lib.hid hall
      clear hall
      by_cases hi6 : i < 6
      · obtain ⟨x, hx⟩ : ∃ x, x = pick6 p0 p1 p2 p3 p4 p5 i := ⟨_, rfl⟩
        have cN : wr.cell? ⟨bN, i, none⟩ = some _ := (Blk.cell (H.at 0 rfl) i).trans (nmB_at k hi6)
        have cP : wr.cell? ⟨b9, i, none⟩ = some _ := (Blk.cell (H.at 1 rfl) i).trans (pick6_at p0 p1 p2 p3 p4 p5 hi6)
        rw [← hx] at cP
        have HX := Lib.hid hx
        clear hx
        cases hn : nmB k i
        · rw [hn] at cN
          by_cases hx0 : x = 0
          · have hb : (x != 0) = false := by simp [hx0]
            go_wp2_with fail
            go_roundw
            case rel =>
              refine ⟨i + 1, by omega, by go_num, H, fun j hj hjn => ?_⟩
              by_cases e : j = i
              · subst e; rw [← HX.out, hx0]
              · exact HALL.out j (by omega) hjn
            case measure => simp [intOf]; omega
          · have hb : (x != 0) = true := by simpa using hx0
            go_wp2_with fail
            go_ret
            exact ⟨ret_bool (decide_eq_false fun h => hx0 (by rw [HX.out]; exact h i hi6 hn)).symm, H.done⟩
        · rw [hn] at cN
          go_wp2_with fail
          go_roundw
          case rel =>
            refine ⟨i + 1, by omega, by go_num, H, fun j hj hjn => ?_⟩
            by_cases e : j = i
            · subst e; rw [hn] at hjn; cases hjn
            · exact HALL.out j (by omega) hjn
          case measure => simp [intOf]; omega
      · have hie : i = 6 := by omega
        subst hie
        go_wp2_with fail
        go_ret
        exact ⟨ret_bool (decide_eq_true HALL.out).symm, H.done⟩)

theorem rvfault_any (a0 a1 a2 a3 a4 a5 n k p0 p1 p2 p3 p4 p5 ch ms vl : Int) (hd : Bool) (w : World) :
    Calls Tryd.prog 72 #[v6 a0 a1 a2 a3 a4 a5, .int .i64 n, vF k p0 p1 p2 p3 p4 p5 ch ms vl hd] w (Gives (.bool (vfAll a0 a1 a2 a3 a4 a5 n k p0 p1 p2 p3 p4 p5 ch ms vl hd)) w) := by
  unfold vfAll
  by_cases hk : 1 ≤ k ∧ k ≤ 6
  · rw [decide_eq_true hk]
    by_cases hp : SV a0 a1 a2 a3 a4 a5 ∧ PV a0 a1 a2 a3 a4 a5 p0 p1 p2 p3 p4 p5
    · rw [decide_eq_true hp]
      by_cases hf : Fit n ch ms vl hd
      · have e : vfB n k p0 p1 p2 p3 p4 p5 ch ms vl hd = decide (Unnamed k p0 p1 p2 p3 p4 p5) := by
          obtain ⟨f1, f2, f3, f4, f5⟩ := hf
          cases hd <;> simp_all [vfB]
        rw [e]
        exact rvfault_fit a0 a1 a2 a3 a4 a5 n k p0 p1 p2 p3 p4 p5 ch ms vl hd hk hp hf w
      · have e : vfB n k p0 p1 p2 p3 p4 p5 ch ms vl hd = false := by
          refine Bool.eq_false_iff.2 fun h => hf ?_
          simp only [vfB, Bool.and_eq_true, decide_eq_true_eq, bne_iff_ne, ne_eq, beq_iff_eq, Bool.or_eq_true] at h
          obtain ⟨⟨⟨⟨⟨h0, h1⟩, h2⟩, h3⟩, h4⟩, h5⟩ := h
          exact ⟨h1, h2, h3, h4, fun h => by rcases h5 with h5 | h5; rw [h] at h5; cases h5; exact h5⟩
        rw [e]
        exact rvfault_unfit a0 a1 a2 a3 a4 a5 n k p0 p1 p2 p3 p4 p5 ch ms vl hd hk hp hf w
    · rw [decide_eq_false hp]
      exact rvfault_place a0 a1 a2 a3 a4 a5 n k p0 p1 p2 p3 p4 p5 ch ms vl hd hk hp w
  · rw [decide_eq_false hk]
    exact rvfault_kind a0 a1 a2 a3 a4 a5 n k p0 p1 p2 p3 p4 p5 ch ms vl hd hk w
end Go.Proofs.YtplflpmkomeadaaDoor
