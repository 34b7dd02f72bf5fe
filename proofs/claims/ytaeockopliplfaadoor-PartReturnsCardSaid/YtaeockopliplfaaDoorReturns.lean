/- The statement PartReturns: its walk. -/
import Derived.Test.YtaeockopliplfaaDoorAwake
import Derived.Test.YtaeockopliplfaaDoorShape
namespace Go.Proofs.YtaeockopliplfaaDoor
open Go.RowKit
set_option maxRecDepth 100000
attribute [local go_sem] lt_more ne_more ne_more'

/-- The law's call: true, and all that was there is as it was. -/
theorem modF_size {n : Int} {s : Int} (hs : s ≤ 12) : 0 ≤ modF n (2 ^ s.toNat) ∧ modF n (2 ^ s.toNat) < 2 ^ s.toNat := by
  have h1 := pw_pos s
  have h2 := pw_12 hs
  exact modF_in h1 (by omega)

set_option maxHeartbeats 8000000 in
theorem returns_walk (sa : Option Addr) (len cap : Nat) (hl : len ≤ maxLen) (n : Int) (w : World) (hN : Nm w) (hI : Ints w sa len) :
    Calls Tryd.prog 3 #[.slice sa len cap, .int .i64 n] w (Gives (.bool true) w) := by
  by_cases h400 : len ≤ 400
  · have hli : ∀ w, Calls Tryd.prog 11 #[.slice sa len cap] w fun e w' => e = .returned (.bool true) ∧ w = w' := fun w => by
      have := light_any sa len cap hl w
      rwa [decide_eq_true h400] at this
    have HLI := Lib.hid hli
    have HI := Lib.hid hI
    have HN := Lib.hid hN
    have hNl := hN.lt
    clear hli hI hl hN
    go_enter Tryd.func3, Tryd.ntmps3
    -- Light, Roll
    go_wp2_with (go_at_call 11; refine (HLI.out _).mono ?_; rintro _ w1 ⟨rfl, rfl⟩)
    refine (roll_any sa len cap h400 w HI.out).mono ?_
    rintro _ w1 ⟨b, rfl, hd, hB, hbb⟩
    -- Shape
    go_wp2_with fail
    refine (shape_any 12 (by decide) w.heap.size b w1 hd).mono ?_
    rintro _ w2 ⟨a0, a1, a2, a3, a4, a5, rfl, hS, hsm, hd2, hg2⟩
    replace hB := hg2.below hB hbb hB.size
    have HS := Lib.hid hS
    have hb2 := hd2.lt
    clear hd hg2 hS
    -- Size, Mod
    go_wp2_with fail
    refine (size_yes HS.out _).mono ?_
    rintro _ w3 ⟨rfl, hb3⟩
    have S3 : Blk w3 w2.heap.size #[.int .i64 a0, .int .i64 a1, .int .i64 a2, .int .i64 a3, .int .i64 a4, .int .i64 a5] 28 := (Blk.new w2 _ _).below hb3
    have hd3 := (hd2.alloc (.cells #[.int .i64 a0, .int .i64 a1, .int .i64 a2, .int .i64 a3, .int .i64 a4, .int .i64 a5] 28)).below hb3
    have hB3 := (hB.alloc hB.size (.cells #[.int .i64 a0, .int .i64 a1, .int .i64 a2, .int .i64 a3, .int .i64 a4, .int .i64 a5] 28)).trans (hb3.mono (by have := hB.size; simp; omega))
    have cS := S3.cell
    have nS := S3.ne
    have lS := S3.lt
    have z3 : w2.heap.size < w3.heap.size := S3.lt
    have z2 := hB.size
    clear hB hd2 hb3
    go_wp2_with fail
    refine (mod_any _ _ _).mono ?_
    rintro _ w4 ⟨rfl, rfl⟩
    obtain ⟨i, hi⟩ : ∃ i, i = modF n (2 ^ (a0 + a1 + a2 + a3 + a4 + a5).toNat) := ⟨_, rfl⟩
    have him := modF_size (n := n) HS.out.sum
    rw [← hi] at him ⊢
    clear hi
    have hi0 := him.1
    have HI1 := Lib.hid him.2
    clear him
    obtain ⟨p, hp⟩ : ∃ p, p = atF a0 a1 a2 a3 a4 a5 i := ⟨_, rfl⟩
    have hall : AtAll a0 a1 a2 a3 a4 a5 i p.a p.b p.c p.d p.e p.f := by
      rw [hp]; obtain ⟨_, _, _, _, _, _, _, _, _, _, _, _, h⟩ := atF_steps HS.out hi0 HI1.out; exact h
    have hat := fun w => at_is HS.out hi0 HI1.out w
    rw [← hp] at hat
    have HAT := Lib.hid hat
    have HALL := Lib.hid hall
    clear hat hall hp
    -- At
    go_wp2_with fail
    refine (HAT.out _).mono ?_
    rintro _ w4 ⟨rfl, hb4⟩
    have S4 := S3.below hb4
    have hd4 := hd3.below hb4
    have hB4 := hB3.trans (hb4.mono hB3.size)
    replace cS := S4.cell
    replace nS := S4.ne
    replace lS := S4.lt
    have z4 := hb4.size
    clear S3 hd3 hB3 hb4
    -- Index
    go_wp2_with fail
    refine (index_yes HS.out HALL.out.place _).mono ?_
    rintro _ w5 ⟨rfl, hb5⟩
    have P5 : Blk w5 w4.heap.size #[.int .i64 p.a, .int .i64 p.b, .int .i64 p.c, .int .i64 p.d, .int .i64 p.e, .int .i64 p.f] 32 := (Blk.new w4 _ _).below hb5
    have S5 := (S4.alloc _).below hb5
    have hd5 := (hd4.alloc _).below hb5
    have hB5 := (hB4.alloc hB4.size _).trans (hb5.mono (by have := hB4.size; simp; omega))
    replace cS := S5.cell
    replace nS := S5.ne
    replace lS := S5.lt
    have cP := P5.cell
    have nP := P5.ne
    have lP := P5.lt
    have z5 : w4.heap.size < w5.heap.size := P5.lt
    clear S4 hd4 hB4 hb5
    rw [HALL.out.index]
    -- Place
    go_wp2_with fail
    refine (place_any HS.out w.heap.size b w5 hd5).mono ?_
    rintro _ w6 ⟨q0, q1, q2, q3, q4, q5, rfl, hq, hd6, hg6⟩
    have hb5 := hd5.lt
    have S6 := S5.chg hg6 (by omega)
    have P6 := P5.chg hg6 (by omega)
    have hB6 := hg6.below hB5 hbb hB5.size
    have HQ := Lib.hid hq
    replace cS := S6.cell
    replace nS := S6.ne
    replace lS := S6.lt
    replace cP := P6.cell
    replace nP := P6.ne
    replace lP := P6.lt
    have z6 := hg6.size
    clear S5 P5 hd5 hB5 hg6 hq
    -- Index of the second place
    go_wp2_with fail
    refine (index_yes HS.out HQ.out _).mono ?_
    rintro _ w7 ⟨rfl, hb7⟩
    have Q7 : Blk w7 w6.heap.size #[.int .i64 q0, .int .i64 q1, .int .i64 q2, .int .i64 q3, .int .i64 q4, .int .i64 q5] 32 := (Blk.new w6 _ _).below hb7
    have S7 := (S6.alloc _).below hb7
    have P7 := (P6.alloc _).below hb7
    have hB7 := (hB6.alloc hB6.size _).trans (hb7.mono (by have := hB6.size; simp; omega))
    replace cS := S7.cell
    replace nS := S7.ne
    replace lS := S7.lt
    replace cP := P7.cell
    replace nP := P7.ne
    replace lP := P7.lt
    have cQ := Q7.cell
    have nQ := Q7.ne
    have lQ := Q7.lt
    have z7 : w6.heap.size < w7.heap.size := Q7.lt
    clear S6 P6 hd6 hB6 hb7
    obtain ⟨j, hj⟩ : ∃ j, j = idx a1 a2 a3 a4 a5 q0 q1 q2 q3 q4 q5 := ⟨_, rfl⟩
    have hjin := idx_in HS.out HQ.out
    rw [← hj] at hjin ⊢
    have hr : atF a0 a1 a2 a3 a4 a5 j = ⟨q0, q1, q2, q3, q4, q5⟩ := by
      obtain ⟨_, _, _, _, _, _, _, _, _, _, _, _, h⟩ := atF_steps HS.out hjin.1 hjin.2
      obtain ⟨e0, e1, e2, e3, e4, e5⟩ := idx_inj h.place HQ.out (h.index.trans hj)
      rw [← e0, ← e1, ← e2, ← e3, ← e4, ← e5]
    have hat := fun w => at_is HS.out hjin.1 hjin.2 w
    rw [hr] at hat
    have HAT2 := Lib.hid hat
    have HJ := Lib.hid hj
    clear hat hr hj hjin
    -- At of its index
    go_wp2_with fail
    refine (HAT2.out _).mono ?_
    rintro _ w8 ⟨rfl, hb8⟩
    have S8 := S7.below hb8
    have P8 := P7.below hb8
    have Q8 := Q7.below hb8
    have hB8 := hB7.trans (hb8.mono hB7.size)
    replace cS := S8.cell
    replace nS := S8.ne
    replace lS := S8.lt
    replace cP := P8.cell
    replace nP := P8.ne
    replace lP := P8.lt
    replace cQ := Q8.cell
    replace nQ := Q8.ne
    replace lQ := Q8.lt
    have z8 := hb8.size
    clear S7 P7 Q7 hB7 hb8
    -- awake
    go_wp2_with fail
    refine (awake09 _ (HN.out.below (hB8.alloc hB8.size _))).mono ?_
    rintro _ w9 ⟨rfl, hb9⟩
    have R9 : Blk w9 w8.heap.size #[.int .i64 q0, .int .i64 q1, .int .i64 q2, .int .i64 q3, .int .i64 q4, .int .i64 q5] 32 := (Blk.new w8 _ _).below hb9
    have S9 := (S8.alloc _).below hb9
    have P9 := (P8.alloc _).below hb9
    have Q9 := (Q8.alloc _).below hb9
    have hB9 := (hB8.alloc hB8.size _).trans (hb9.mono (by have := hB8.size; simp; omega))
    replace cS := S9.cell
    replace cP := P9.cell
    replace cQ := Q9.cell
    have cR := R9.cell
    clear S8 P8 Q8 hB8 hb9 nS nP nQ lS lP lQ
    -- ValidPlace
    go_wp2_with fail
    refine (validPlace_yes HS.out HALL.out.place _).mono ?_
    rintro _ w10 ⟨rfl, hb10⟩
    have P10 := P9.below hb10
    have Q10 := Q9.below hb10
    have R10 := R9.below hb10
    have hB10 := hB9.trans (hb10.mono hB9.size)
    replace cP := P10.cell
    replace cQ := Q10.cell
    replace cR := R10.cell
    clear S9 P9 Q9 R9 hB9 hb10 cS
    have hiff : j = i ↔ (p.a = q0 ∧ p.b = q1 ∧ p.c = q2 ∧ p.d = q3 ∧ p.e = q4 ∧ p.f = q5) :=
      ⟨fun h => idx_inj HALL.out.place HQ.out (by rw [HALL.out.index, ← HJ.out, h]), fun ⟨e0, e1, e2, e3, e4, e5⟩ => by rw [HJ.out, ← HALL.out.index, e0, e1, e2, e3, e4, e5]⟩
    have HIFF := Lib.hid hiff
    clear hiff
    go_wp2_with fail
    all_goals
      go_ret
      refine ⟨ret_bool ?_, hB10⟩
      by_cases hji : j = i
      · have hh := HIFF.out.1 hji
        simp_all
      · have hh := fun h => hji (HIFF.out.2 h)
        simp_all
  · have hli : ∀ w, Calls Tryd.prog 11 #[.slice sa len cap] w fun e w' => e = .returned (.bool false) ∧ w = w' := fun w => by
      have := light_any sa len cap hl w
      rwa [decide_eq_false h400] at this
    have HLI := Lib.hid hli
    have HN := Lib.hid hN
    clear hli hI hl hN
    go_enter Tryd.func3, Tryd.ntmps3
    go_wp2_with (go_at_call 11; refine (HLI.out _).mono ?_; rintro _ w1 ⟨rfl, rfl⟩)
    refine (awake09 _ HN.out).mono ?_
    rintro _ w1 ⟨rfl, hb1⟩
    go_wp2_with fail
    go_ret
    exact ⟨rfl, hb1⟩
end Go.Proofs.YtaeockopliplfaaDoor
