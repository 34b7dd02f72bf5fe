/- Plan (chapter 39): slices.SortStableFunc by loss, slices.Sort of ints of one's own; the best rows (plan.best). -/
import Derived.Test.YtdhnpjgnnfgklaaPlM
import Derived.Shelf.Sort.Plain
import Derived.Shelf.Slices.In.SortNone
import Derived.Sort.OwnSortedInts
namespace Go.Proofs
open Go.Shelf
shelf_lay Lays.n189 Nm 189 at Try as Try.lays189
end Go.Proofs
namespace Go.Proofs.Ytdhnpjgnnfgklaa
set_option linter.unusedSimpArgs false
set_option linter.unusedVariables false
open Go.RowKit
set_option maxRecDepth 100000
attribute [local irreducible] wpX wpF Calls
attribute [local go_sem] run_mkMapG
open Go.Sort
/-- What a stable sort hands back, of an empty slice, too. -/
def StableP (R : Int → Int → Prop) (sa : Option Addr) (c : Nat) (xs : List Int) (w : World) (e : Ending) (w' : World) : Prop :=
  e = .returned (.tuple #[]) ∧ ∃ ts : List Int, ts.Perm xs ∧ ts.Pairwise R ∧ w'.ownsRow 0 3 1 (.slice sa xs.length c) xs.length (ts.flatMap iC) ∧ w.grownBy w' (Value.slice sa xs.length c).ownBlock
theorem grown_below {w w' : World} (o : Option Nat) (h : Below w.heap.size w w') : w.grownBy w' o := ⟨h.os, h.tape, h.output, h.size, fun k hk _ => h.block k hk⟩
theorem grown_chg {w w' : World} {g n c : Nat} (h : Chg g w w') : w.grownBy w' (Value.slice (some ⟨g, 0, none⟩) n c).ownBlock := ⟨h.os, h.tape, h.output, h.size, fun k hk hne => h.block k hk (fun e => hne (by rw [e]; rfl))⟩
set_option maxHeartbeats 4000000 in
theorem insort_nil (gf : Nat) (lb : Array Value) (sa : Option Addr) (c : Nat) (w : World) :
    Calls Try.prog 85 #[.slice sa 0 c, .int .i64 0, .int .i64 0, .func (.func gf) #[] lb] w (fun e w' => e = .returned (.tuple #[]) ∧ Below w.heap.size w w') := by
  go_enter Try.func85, Try.ntmps85
  have H := HS.start NoD w
  go_wp2_with fail
  go_loopw [8] (fun ii wr => ii = .int .i64 1 ∧ HS NoD w [] wr) (fun ii _ => 0)
  case atStart => exact ⟨rfl, H⟩
  case round =>
    clear H
    obtain ⟨rfl, H⟩ := hrel
    go_wp2_with fail
    go_end0
    exact ⟨rfl, H.done⟩
theorem stable_low (gf : Nat) (lb : Array Value) {sa : Option Addr} {n c : Nat} (hn : n ≤ 12) (w : World) {P : Ending → World → Prop}
    (h : ∀ W, W = w → Calls Try.prog 85 #[.slice sa n c, .int .i64 0, .int .i64 n, .func (.func gf) #[] lb] W (fun e w' => e = .returned (.tuple #[]) ∧ P (.returned (.tuple #[])) w')) :
    Calls Try.prog 52 #[.slice sa n c, .func (.func gf) #[] lb] w P := by
  have h20 : ¬ (20 : Int) ≤ n := by omega
  have h20b : ¬ (20 : Int) < n := by omega
  have HS0 := Lib.hid (show Calls Try.prog 76 #[.slice sa n c, .int .i64 n, .func (.func gf) #[] lb] w (fun e w' => e = .returned (.tuple #[]) ∧ P (.returned (.tuple #[])) w') from by
    have HX := Lib.hid (h w rfl)
    clear h
    go_enter Try.func76, Try.ntmps76
    have H := HS.start NoD w
    go_wp2_with fail
    go_loopw [8, 7] (fun bb aa wr => bb = .int .i64 20 ∧ aa = .int .i64 0 ∧ wr = w) (fun _ _ _ => 0)
    case atStart => exact ⟨rfl, rfl, rfl⟩
    case round =>
      clear H
      obtain ⟨rfl, rfl, rfl⟩ := hrel
      go_wp2_with fail
      refine HX.out.mono ?_
      rintro _ w2 ⟨rfl, hP⟩
      dsimp only
      go_wp2_with fail
      go_loopw [6] (fun ss wr => ss = .int .i64 20 ∧ wr = w2) (fun _ _ => 0)
      case atStart => exact ⟨rfl, rfl⟩
      case round =>
        obtain ⟨rfl, rfl⟩ := hrel
        go_wp2_with fail
        go_end0
        exact ⟨rfl, hP⟩)
  clear h
  go_enter Try.func52, Try.ntmps52
  have H := HS.start NoD w
  clear H
  go_wp2_with fail
  refine HS0.out.mono ?_
  rintro _ w2 ⟨rfl, hP⟩
  dsimp only
  go_wp2_with fail
  go_end0
  exact hP
theorem stable_any (gf : Nat) (eg : ∀ args w, (callFunc gf args).run Try.prog w = .ok (.enter gf args) w) (lb : Array Value) (cf : Int → Int → Int) (R : Int → Int → Prop) (h1 : ∀ x y, cf x y < 0 → R x y) (h2 : ∀ x y, ¬ cf x y < 0 → y < x → R y x) (ht : ∀ x y z, R x y → R y z → R x z)
    {sa : Option Addr} (c : Nat) {xs : List Int} (hn : xs.length ≤ 12) (hp : xs.Pairwise (· < ·)) (w : World) (hr : w.ownsRow 0 3 1 (.slice sa xs.length c) xs.length (xs.flatMap iC))
    (hc : ∀ W x y, x ∈ xs → y ∈ xs → w.grownBy W (Value.slice sa xs.length c).ownBlock → Calls Try.prog gf (#[.int .i64 x, .int .i64 y] ++ lb) W (Gives (.int .i64 (cf x y)) W)) :
    Calls Try.prog 52 #[.slice sa xs.length c, .func (.func gf) #[] lb] w (StableP R sa c xs w) := by
  by_cases h0 : xs = []
  · subst h0
    refine stable_low gf lb (by simp) w fun W hW => ?_
    subst hW
    refine (insort_nil gf lb sa c W).mono ?_
    rintro e w' ⟨rfl, hb⟩
    refine ⟨rfl, rfl, [], List.Perm.refl _, .nil, ?_, grown_below _ hb⟩
    obtain ⟨k1, k2⟩ := hr
    refine ⟨k1, ?_⟩
    rcases k2 with k2 | ⟨g, cap, cur, hv, hg, hh, r⟩
    · exact .inl k2
    · exact .inr ⟨g, cap, cur, hv, hg, (hb.block g (Array.getElem?_eq_some_iff.1 hh).1).trans hh, r⟩
  · have h00 : 0 < xs.length := List.length_pos_iff.2 h0
    obtain ⟨g, cap, hv, -, -⟩ := World.ownsRow.form hr h00
    obtain ⟨rfl, -, rfl⟩ := Value.slice.inj hv
    clear hv
    refine stable_low gf lb hn w fun W hW => ?_
    subst hW
    refine (insort_any gf eg lb cf R h1 h2 ht c h00 (by omega) hp W hr fun V x y hx hy hg => hc V x y hx hy (grown_chg hg)).mono ?_
    rintro e w' ⟨rfl, ts, k1, k2, H⟩
    exact ⟨rfl, rfl, ts, k1, k2, H.at 0 rfl, grown_chg H.doneDice⟩
/-! ### slices.Sort -/
def sortZ (xs : List Int) : List Int := xs.mergeSort fun x y => decide (x ≤ y)
theorem sortZ_perm (xs : List Int) : (sortZ xs).Perm xs := List.mergeSort_perm _ _
theorem sortZ_le (xs : List Int) : (sortZ xs).Pairwise (fun x y => x ≤ y) :=
  (List.pairwise_mergeSort (le := fun x y : Int => decide (x ≤ y)) (fun a b c h1 h2 => by simp at h1 h2 ⊢; omega) (fun a b => by simp; omega) xs).imp fun h => of_decide_eq_true h
def SortPZ (sa : Option Addr) (c : Nat) (xs : List Int) (w : World) (e : Ending) (w' : World) : Prop :=
  e = .returned (.tuple #[]) ∧ w'.ownsRow 0 3 1 (.slice sa xs.length c) xs.length ((sortZ xs).flatMap iC) ∧ w.grownBy w' (Value.slice sa xs.length c).ownBlock
theorem sortZ_any {sa : Option Addr} {c : Nat} {xs : List Int} (hx : xs.length ≤ 1000) (w : World) (hr : w.ownsRow 0 3 1 (.slice sa xs.length c) xs.length (xs.flatMap iC)) :
    Calls Try.prog 54 #[.slice sa xs.length c] w (SortPZ sa c xs w) := by
  have hr0 := hr
  rcases hr.2 with ⟨h2, h3⟩ | ⟨g, cap, cur, hv, hg, hb, h1, h2, h3, h4⟩
  · injection h2 with e1 e2 e3
    have hxs : xs = [] := List.length_eq_zero_iff.1 e2
    subst hxs e1 e3
    have h : Calls Try.prog 54 #[.slice none 0 0] w (fun e w' => e = .returned (.tuple #[]) ∧ w' = w) :=
      calls_of_every_depth fun D => AnyS.slices_Sort_int_none_alone Try.lays189 D none 0 w
    refine h.mono ?_
    rintro e w' ⟨rfl, rfl⟩
    exact ⟨rfl, by simpa [sortZ] using hr0, grown_below _ (Below.refl _ _)⟩
  · injection hv with e1 e2 e3
    subst e1 e3
    rw [flat_iC, Nat.mul_one] at h4
    have h := Any.slices_Sort_int Try.lays189 g 0 c xs w (holds_of_blockI hb h4) (Array.getElem?_eq_some_iff.1 hb).1 (by omega)
    refine Calls.mono (show Calls Try.prog 54 _ w _ from h) ?_
    rintro e w' ⟨rfl, n, os, rfl⟩
    refine ⟨rfl, ?_, grownBy_sortedI _⟩
    rw [flat_iC]
    exact ownsRow_sortedI (ss := xs) (by simp) (Nat.zero_le _) hb h1 h2 h3
end Go.Proofs.Ytdhnpjgnnfgklaa
