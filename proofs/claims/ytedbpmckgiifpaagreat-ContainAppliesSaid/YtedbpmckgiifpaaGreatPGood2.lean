/- Valid programs stay valid: dropping, owning, replacing, telling. Plain words. -/
import Derived.Test.YtedbpmckgiifpaaGreatOP8
import Derived.Test.YtedbpmckgiifpaaGreatOP6
namespace Go.Proofs.YtedbpmckgiifpaaGreat
set_option linter.unusedSimpArgs false
set_option linter.unusedVariables false

theorem Good1.sub {F : Int} {p : Pr} (h : Good1 F p) {pg : List Pg} (hs : pg.Sublist p.pages) {td : List Int} (ht : td.length ≤ 200) : Good1 F { p with pages := pg, told := td } :=
  ⟨h.ids, Nat.le_trans hs.length_le h.plen, h.pasc.sublist hs, fun x hx => h.pnum x (hs.subset hx), h.pfr.sublist hs, fun hd => by
    have := h.dead hd
    dsimp only
    rw [this] at hs
    exact List.sublist_nil.1 hs, ht⟩
theorem Sh.sub {a p : Pr} (h : Sh a p) {pg : List Pg} (hs : pg.Sublist p.pages) {td : List Int} : Sh a { p with pages := pg, told := td } := fun x hx y hy e => h x hx y (hs.subset hy) e
theorem GoodP.sub {F : Int} {ps : List Pr} (h : GoodP F ps) {i : Nat} (hi : i < ps.length) {pg : List Pg} (hs : pg.Sublist (ps[i]!).pages) {td : List Int} (ht : td.length ≤ 200) : GoodP F (ps.set i { ps[i]! with pages := pg, told := td }) :=
  h.set hi ((h.one _ (at_mem hi)).sub hs ht) rfl (fun a _ hs' => hs'.sub hs) (fun a _ hs' => (hs'.symm.sub hs).symm)
theorem GoodP.drop {F : Int} {ps out : List Pr} {u : Int} (h : GoodP F ps) {id n : Int} (e : dropP ps id n = (0, out, u)) : GoodP F out ∧ out.length = ps.length := by
  rcases findP_cases ps id n with ⟨i, k, hf, hi, hk⟩ | ⟨e', hf, he⟩
  · rw [dropP_of hf] at e
    cases e
    have hil := (findIdx_some hi).1
    exact ⟨h.sub hil (List.eraseIdx_sublist _ _) (h.one _ (at_mem hil)).told, by rw [List.length_set]⟩
  · rw [dropP_err hf he] at e; rcases he with rfl | rfl <;> cases e
theorem tellT_len {td : List Int} (n : Int) (h : td.length ≤ 200) : (tellT td n).length ≤ 200 := by
  unfold tellT; split
  · rw [List.length_append]; simp; omega
  · exact h
theorem GoodP.tell {F : Int} {ps out : List Pr} {u : Int} (h : GoodP F ps) {id n : Int} (e : tellP ps id n = (0, out, u)) : GoodP F out ∧ out.length = ps.length := by
  rcases findP_cases ps id n with ⟨i, k, hf, hi, hk⟩ | ⟨e', hf, he⟩
  · rw [tellP_of hf] at e
    cases e
    have hil := (findIdx_some hi).1
    exact ⟨h.sub hil (List.eraseIdx_sublist _ _) (tellT_len n (h.one _ (at_mem hil)).told), by rw [List.length_set]⟩
  · rw [tellP_err hf he] at e; rcases he with rfl | rfl <;> cases e
theorem mem_setPg {pg : List Pg} {k : Nat} {x y : Pg} (h : y ∈ pg.set k x) : y = x ∨ y ∈ pg := by
  rcases List.mem_or_eq_of_mem_set h with h | h
  · exact .inr h
  · exact .inl h
theorem GoodP.own {F : Int} {ps out : List Pr} {u : Int} (h : GoodP F ps) {id n f : Int} (hfF : f < F) (e : ownP ps id n f = (0, out, u)) : GoodP F out ∧ out.length = ps.length := by
  rcases findP_cases ps id n with ⟨i, k, hf, hi, hk⟩ | ⟨e', hf, he⟩
  · rw [ownP_of hf] at e
    have hil := (findIdx_some hi).1
    have hkl := (findIdx_some hk).1
    split at e
    · cases e
    · split at e
      · cases e
      · rename_i r1 r2
        cases e
        refine ⟨?_, by rw [List.length_set]⟩
        have hg := h.one _ (at_mem hil)
        have hu := used_not r2
        have hmem := at_mem hil
        generalize hq : ps[i]! = q at *
        have hx := hg.pnum _ (at_mem hkl)
        refine h.set hil ⟨hg.ids, by dsimp only; rw [List.length_set]; exact hg.plen, ?_, fun x hx' => ?_, ?_, fun hdd => ?_, hg.told⟩ (by rw [hq]) (fun a ha hs x hx y hy exy => ?_) (fun a ha hs x hx y hy exy => ?_)
        · exact pairwise_set' hg.pasc hkl (fun a _ e => e) (fun a _ e => e)
        · rcases mem_setPg hx' with rfl | hx'
          · dsimp only; omega
          · exact hg.pnum x hx'
        · exact pairwise_set' hg.pfr hkl (fun a ha _ => hu q hmem a ha) (fun a ha _ e => hu q hmem a ha e.symm)
        · have := hg.dead hdd
          dsimp only at this ⊢
          rw [this] at hkl; exact absurd hkl (Nat.not_lt_zero _)
        · rcases mem_setPg hy with rfl | hy
          · exact absurd exy (hu a ha x hx)
          · rw [hq] at hs; exact hs x hx y hy exy
        · rcases mem_setPg hx with rfl | hx
          · exact absurd exy.symm (hu a ha y hy)
          · rw [hq] at hs; exact hs x hx y hy exy
  · rw [ownP_err hf he] at e; rcases he with rfl | rfl <;> cases e
theorem mv1_s (a b : Int) (x : Pg) : (mv1 a b x).s = x.s ∧ (mv1 a b x).n = x.n := by unfold mv1; split <;> exact ⟨rfl, rfl⟩
theorem mv1_f {a b : Int} {x : Pg} : ((mv1 a b x).f = b ∧ x.f = a) ∨ ((mv1 a b x).f = x.f ∧ x.f ≠ a) := by
  unfold mv1; split
  · exact .inl ⟨rfl, by assumption⟩
  · exact .inr ⟨rfl, by assumption⟩
theorem mv1_inj {a b : Int} {x y : Pg} (hab : a = b ∨ (x.f ≠ b ∧ y.f ≠ b)) (e : (mv1 a b x).f = (mv1 a b y).f) : x.f = y.f := by
  rcases mv1_f (a := a) (b := b) (x := x) with ⟨h1, h2⟩ | ⟨h1, h2⟩ <;> rcases mv1_f (a := a) (b := b) (x := y) with ⟨h3, h4⟩ | ⟨h3, h4⟩
  · omega
  · rcases hab with hab | ⟨hx, hy⟩ <;> omega
  · rcases hab with hab | ⟨hx, hy⟩ <;> omega
  · omega
theorem GoodP.repl {F : Int} {ps out : List Pr} (h : GoodP F ps) {a b : Int} (hb : b < F) (e : replP ps a b = (0, out)) : GoodP F out ∧ out.length = ps.length := by
  unfold replP at e
  split at e
  · cases e
  · split at e
    · cases e
    · rename_i r1 r2
      cases e
      have hno : ∀ p ∈ ps, ∀ x ∈ p.pages, a = b ∨ x.f ≠ b := fun p hp x hx => by
        by_cases hab : a = b
        · exact .inl hab
        · exact .inr (used_not (fun hu => r2 ⟨hab, hu⟩) p hp x hx)
      have hno2 : ∀ p ∈ ps, ∀ x ∈ p.pages, ∀ q ∈ ps, ∀ y ∈ q.pages, a = b ∨ (x.f ≠ b ∧ y.f ≠ b) := fun p hp x hx q hq y hy => by
        rcases hno p hp x hx with h1 | h1
        · exact .inl h1
        · rcases hno q hq y hy with h2 | h2
          · exact .inl h2
          · exact .inr ⟨h1, h2⟩
      refine ⟨⟨by rw [List.length_map]; exact h.len, fun p hp => ?_, by rw [List.pairwise_map]; exact h.asc, ?_⟩, by rw [List.length_map]⟩
      · obtain ⟨q, hq, rfl⟩ := List.mem_map.1 hp
        have hg := h.one q hq
        refine ⟨hg.ids, by rw [mv1_map, List.length_map]; exact hg.plen, move_asc hg.pasc, fun x hx => ?_, ?_, fun hd => by rw [mv1_map, hg.dead hd]; rfl, hg.told⟩
        · rw [mv1_map] at hx
          obtain ⟨y, hy, rfl⟩ := List.mem_map.1 hx
          have := hg.pnum y hy
          rcases mv1_f (a := a) (b := b) (x := y) with ⟨h1, h2⟩ | ⟨h1, h2⟩
          · rw [h1, (mv1_s a b y).2]; omega
          · rw [h1, (mv1_s a b y).2]; exact this
        · rw [mv1_map, List.pairwise_map]
          refine hg.pfr.imp_of_mem fun {x y} hx hy hne e => hne (mv1_inj (hno2 q hq x hx q hq y hy) e)
      · rw [List.pairwise_map]
        refine h.shar.imp_of_mem fun {p q} hp hq hs => ?_
        intro x hx y hy e
        rw [mv1_map] at hx hy
        obtain ⟨x', hx', rfl⟩ := List.mem_map.1 hx
        obtain ⟨y', hy', rfl⟩ := List.mem_map.1 hy
        rw [(mv1_s a b x').1, (mv1_s a b y').1]
        exact hs x' hx' y' hy' (mv1_inj (hno2 p hp x' hx' q hq y' hy') e)
end Go.Proofs.YtedbpmckgiifpaaGreat
