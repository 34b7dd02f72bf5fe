/- What the cache's functions hand back, frozen: nobody writes to it any more. -/
import Derived.Test.YtfmcicmbehjdcaaLrQ
import Derived.Test.YtfmcicmbehjdcaaLrS
import Derived.Test.YtfmcicmbehjdcaaLrW
namespace Go.Proofs.Ytfmcicmbehjdcaa
set_option linter.unusedSimpArgs false
set_option linter.unusedVariables false
open Go.RowKit
set_option maxRecDepth 100000
attribute [local irreducible] wpX wpF Calls

theorem HS.freeze {D : Nat → Prop} {W w : World} {L : List Item} {s : Option Addr} {n c : Nat} {qs : List Sw} {F : Nat → Prop} {K K' : World → Prop} (h : HS D W (L ++ [rowS s n c qs, .any F K]) w) (hn : n = qs.length) (hk : ∀ w, K w → SlotsOk w qs ∧ K' w) :
    ∃ F', HS D W (L ++ [.any F' (fun w => SlotsAt w ⟨s, n, c⟩ (qs.map Sw.s) ∧ K' w)]) w := by
  have h1 : HS D W ((L ++ [.any F K]) ++ [rowS s n c qs]) w := h.permu (by
    rw [List.append_assoc]
    exact List.Perm.append_left _ (List.Perm.swap _ _ _))
  have h2 := HS.anyOf h1 rfl
  rw [List.append_assoc] at h2
  have h3 := HS.merge h2
  exact ⟨_, h3.weak fun w hh => ⟨slotsAt_of (ownsRow_zero hh.2) hn (hk w hh.1).1, (hk w hh.1).2⟩⟩
def GivesLkF (S W : Nat) (size : Int) (P : List Sm × Lm × Bool → Prop) (w : World) (e : Ending) (w' : World) : Prop := ∃ (o : List Sm × Lm × Bool) (x y : Sv) (F : Nat → Prop), P o ∧ e = .returned (.tuple #[caV S W size x, lnV o.2.1 y, .bool o.2.2]) ∧ HS NoD w [.any F (fun w => SlotsAt w x o.1 ∧ BytesAt w y o.2.1.bs)] w'
theorem GivesLk.fz {S W : Nat} {size : Int} {P : List Sm × Lm × Bool → Prop} {w w' : World} {e : Ending} (h : GivesLk S W size P w e w') : GivesLkF S W size P w e w' := by
  obtain ⟨o, s, c, qs, y, F, ho, hq, he, K⟩ := h
  obtain ⟨F', K'⟩ := HS.freeze (L := []) K rfl (fun w h => h)
  rw [hq] at K'
  exact ⟨o, _, y, F', ho, he, K'⟩
def GivesPtF (S W : Nat) (size : Int) (P : List Sm × Lm × Bool × Int → Prop) (w : World) (e : Ending) (w' : World) : Prop := ∃ (o : List Sm × Lm × Bool × Int) (x y : Sv) (F : Nat → Prop), P o ∧ e = .returned (.tuple #[caV S W size x, lnV o.2.1 y, .bool o.2.2.1, .int .i64 o.2.2.2]) ∧ HS NoD w [.any F (fun w => SlotsAt w x o.1 ∧ BytesAt w y o.2.1.bs)] w'
theorem GivesPt.fz {S W : Nat} {size : Int} {P : List Sm × Lm × Bool × Int → Prop} {w w' : World} {e : Ending} (h : GivesPt S W size P w e w') : GivesPtF S W size P w e w' := by
  obtain ⟨o, s, c, qs, y, F, ho, hq, he, K⟩ := h
  obtain ⟨F', K'⟩ := HS.freeze (L := []) K rfl (fun w h => h)
  rw [hq] at K'
  exact ⟨o, _, y, F', ho, he, K'⟩
def GivesCacheDF (B b : Nat) (w : World) (e : Ending) (w' : World) : Prop := ∃ (S W z : Nat) (l : List Sm) (x : Sv) (F : Nat → Prop), S ≤ 3 ∧ 1 ≤ z ∧ z ≤ 3 ∧ GoodC S W z l ∧ e = .returned (caV S W z x) ∧ HS (OneD b) w [.dice B b, .any F (fun w => SlotsAt w x l)] w'
theorem GivesCacheD.fz {B b : Nat} {w w' : World} {e : Ending} (h : GivesCacheD B b w e w') : GivesCacheDF B b w e w' := by
  obtain ⟨S, W, z, s, c, qs, F, h1, h2, h3, hg, he, K⟩ := h
  obtain ⟨F', K'⟩ := HS.freeze (L := [_]) (K' := fun _ => True) K rfl (fun w h => ⟨h, trivial⟩)
  exact ⟨S, W, z, _, _, F', h1, h2, h3, hg, he, HS.weak (L := [_]) K' fun w h => h.1⟩
section
variable {S W : Nat} {size : Int} {l : List Sm}
theorem cget_f (hg : GoodC S W size l) (x : Sv) (a : Int) (w : World) (h : SlotsAt w x l) : Calls Try.prog 20 #[caV S W size x, .int .i64 a] w (GivesLkF S W size (GetR S W l a) w) := (cget_any hg x a w h).mono fun _ _ h => h.fz
theorem cdrop_f (hg : GoodC S W size l) (x : Sv) (a : Int) (w : World) (h : SlotsAt w x l) : Calls Try.prog 22 #[caV S W size x, .int .i64 a] w (GivesLkF S W size (DropR S W l a) w) := (cdrop_any hg x a w h).mono fun _ _ h => h.fz
theorem cput_f (hg : GoodC S W size l) (x : Sv) (m : Lm) (y : Sv) (hm : m.bs.length ≤ 1000) (w : World) (h : SlotsAt w x l) (hy : BytesAt w y m.bs) : Calls Try.prog 24 #[caV S W size x, lnV m y] w (GivesPtF S W size (PutR S W size l m) w) := (cput_any hg x m y hm w h hy).mono fun _ _ h => h.fz
theorem r31get_f (hg : GoodC S W size l) (x : Sv) (a : Int) (w : World) (h : SlotsAt w x l) : Calls Try.prog 27 #[caV S W size x, .int .i64 a] w (GivesLkF S W size (GetR S W l a) w) := (r31get_any hg x a w h).mono fun _ _ h => h.fz
theorem r31drop_f (hg : GoodC S W size l) (x : Sv) (a : Int) (w : World) (h : SlotsAt w x l) : Calls Try.prog 28 #[caV S W size x, .int .i64 a] w (GivesLkF S W size (DropR S W l a) w) := (r31drop_any hg x a w h).mono fun _ _ h => h.fz
theorem r31put_f (hg : GoodC S W size l) (x : Sv) (m : Lm) (y : Sv) (hm : m.bs.length ≤ 1000) (w : World) (h : SlotsAt w x l) (hy : BytesAt w y m.bs) : Calls Try.prog 29 #[caV S W size x, lnV m y] w (GivesPtF S W size (PutR S W size l m) w) := (r31put_any hg x m y hm w h hy).mono fun _ _ h => h.fz
end
theorem mcache_f (B b : Nat) (w : World) (hd : Dice B w b) (hB : B ≤ w.heap.size) : Calls Try.prog 10 #[.pointer (some ⟨b, 0, none⟩)] w (GivesCacheDF B b w) := (mcache_any B b w hd hB).mono fun _ _ h => h.fz
/-- A good cache is valid, wherever it lies. -/
theorem cvalid_f {S W : Nat} {size : Int} {l : List Sm} (hg : GoodC S W size l) (x : Sv) (w : World) (h : SlotsAt w x l) : Calls Try.prog 17 #[caV S W size x] w (Gives (.bool true) w) := by
  obtain ⟨qs, hq, hn, hcap, hl, hok⟩ := h
  have h32 := hg.len32
  have := cvalid_any S W size x qs hn hcap (by rw [← hq, List.length_map] at h32; omega) (fun j hj => (hok j hj).len) w hl
  rw [hq, hg.valid] at this
  exact this
end Go.Proofs.Ytfmcicmbehjdcaa
