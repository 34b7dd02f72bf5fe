/- slices.SortFunc at uses of one's own, by program and page. -/
import Derived.Test.YthpoanlmaafanaaPgS
import Derived.Shelf.SlSortCmp.NoneTotal
import Derived.Shelf.SlicesG.Cmp
import Derived.Shelf.Lay
import Derived.Ground.SlsfProg
import Derived.Ground.SlgcProg
namespace Go.Proofs
open Go.Shelf
shelf_lay_g SlLaysF0.n6 Slsf 6 at Try 26 as Try.sortUse
shelf_lay_g SlLaysC2.n5 Slgc 5 at Try 29 as Try.cmpInt
end Go.Proofs
namespace Go.Proofs.Ythpoanlmaafanaa
set_option linter.unusedSimpArgs false
set_option linter.unusedVariables false
open Go.RowKit Go.Sort Go.Lib
set_option maxRecDepth 100000
attribute [local irreducible] wpX wpF Calls

def encU (x : Int × Int) : List Value := [.int .i64 x.1, .int .i64 x.2]
theorem encU_len (x : Int × Int) : (encU x).length = 2 := rfl
def cmpU (x y : Int × Int) : Int := if Lib.compareInt x.1 y.1 = 0 then Lib.compareInt x.2 y.2 else Lib.compareInt x.1 y.1
theorem or_any (a c : Int) (b : Nat) (W : World) (h0 : W.cell? ⟨b, 0, none⟩ = some (.int .i64 a)) (h1 : W.cell? ⟨b, 1, none⟩ = some (.int .i64 c)) :
    Calls Try.prog 28 #[.slice (some ⟨b, 0, none⟩) 2 2] W fun e w' => e = .returned (.int .i64 (if a = 0 then c else a)) ∧ w' = W := by
  by_cases ha : a = 0
  · subst ha
    by_cases hc : c = 0
    · subst hc
      go_enter Try.func28, Try.ntmps28
      go_wp2_with fail
      go_rounds 3
      go_ret
      exact ⟨rfl, rfl⟩
    · have hcb : (c == 0) = false := beq_eq_false_iff_ne.2 hc
      go_enter Try.func28, Try.ntmps28
      go_wp2_with fail
      go_rounds 3
      go_ret
      exact ⟨rfl, rfl⟩
  · have hab : (a == 0) = false := beq_eq_false_iff_ne.2 ha
    go_enter Try.func28, Try.ntmps28
    go_wp2_with fail
    go_rounds 3
    go_ret
    exact ⟨rfl, rfl⟩
theorem cell_alloc3 (W : World) (o1 o2 : Obj) (cs : Array Value) (t : TypeId) (k : Nat) (u : Value) (h : cs[k]? = some u) : (((W.alloc o1).alloc o2).alloc (.cells cs t)).cell? ⟨W.heap.size + 1 + 1, k, none⟩ = some u := by
  have := (Blk.new ((W.alloc o1).alloc o2) cs t).cell k
  rw [h] at this
  simpa using this
theorem cell_drew3 (W : World) (o1 o2 : Obj) (cs : Array Value) (t : TypeId) (k : Nat) (u : Value) (h : cs[k]? = some u) : (((W.alloc o1).alloc o2).alloc (.cells cs t)).drew.cell? ⟨W.heap.size + 1 + 1, k, none⟩ = some u := cell_alloc3 W o1 o2 cs t k u h
theorem cell_drew3' (W : World) (o1 o2 : Obj) (cs : Array Value) (t : TypeId) (k : Nat) (u : Value) (h : cs[k]? = some u) : (((W.alloc o1).alloc o2).drew.alloc (.cells cs t)).cell? ⟨W.heap.size + 1 + 1, k, none⟩ = some u := cell_alloc3 W o1 o2 cs t k u h
set_option maxHeartbeats 1000000 in
theorem closeU (x y : Int × Int) (W : World) : Calls Try.prog 27 #[kU x, kU y] W fun e w' => e = .returned (.int .i64 (cmpU x y)) ∧ ∃ q os', w' = grow (W.drewN q) os' := by
  obtain ⟨a, b⟩ := x
  obtain ⟨c, d⟩ := y
  have hcon := Lib.hid (fun p q W' => AnyG.cmp_Compare_int Try.cmpInt p q W')
  have hor := Lib.hid or_any
  have e1 := Lib.hid (show cmpU (a, b) (c, d) = if Lib.compareInt a c = 0 then Lib.compareInt b d else Lib.compareInt a c from rfl)
  rw [e1.out]
  clear e1
  obtain ⟨r1, hr1⟩ : ∃ r, r = Lib.compareInt a c := ⟨_, rfl⟩
  obtain ⟨r2, hr2⟩ : ∃ r, r = Lib.compareInt b d := ⟨_, rfl⟩
  rw [← hr1, ← hr2]
  have H1 := Lib.hid (show ∀ W', Calls Try.prog 29 #[.int .i64 a, .int .i64 c] W' (fun e w' => e = .returned (.int .i64 r1) ∧ w' = W') from fun W' => by rw [hr1]; exact hcon.out a c W')
  have H2 := Lib.hid (show ∀ W', Calls Try.prog 29 #[.int .i64 b, .int .i64 d] W' (fun e w' => e = .returned (.int .i64 r2) ∧ w' = W') from fun W' => by rw [hr2]; exact hcon.out b d W')
  clear hr1 hr2 hcon
  show Calls Try.prog 27 #[.agg #[.int .i64 a, .int .i64 b], .agg #[.int .i64 c, .int .i64 d]] W _
  go_enter Try.func27, Try.ntmps27
  go_upto_region 1 with fail
  go_region_law (first
    | (go_simp; go_at_call 29; first | (refine (H1.out _).mono ?_; rintro _ _ ⟨rfl, rfl⟩) | (refine (H2.out _).mono ?_; rintro _ _ ⟨rfl, rfl⟩))
    | (go_simp; go_at_call 28; refine (hor.out r1 r2 _ _ (by first | exact cell_alloc3 _ _ _ _ _ 0 _ rfl | exact cell_drew3 _ _ _ _ _ 0 _ rfl | exact cell_drew3' _ _ _ _ _ 0 _ rfl) (by first | exact cell_alloc3 _ _ _ _ _ 1 _ rfl | exact cell_drew3 _ _ _ _ _ 1 _ rfl | exact cell_drew3' _ _ _ _ _ 1 _ rfl)).mono ?_; rintro _ _ ⟨rfl, rfl⟩))
  all_goals go_wp2_with fail
  all_goals
    go_ret
    first
      | exact ⟨rfl, 1, _, by simp only [alloc_eq_grow, grow_grow]; rfl⟩
      | exact ⟨rfl, 0, _, by simp only [alloc_eq_grow, grow_grow]; rfl⟩
end Go.Proofs.Ythpoanlmaafanaa
