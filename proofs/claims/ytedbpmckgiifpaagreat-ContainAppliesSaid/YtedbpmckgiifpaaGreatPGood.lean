/- Valid programs, and that mapping, forking and ending leave them valid: plain words, no program in sight. -/
import Derived.Test.YtedbpmckgiifpaaGreatJ2
namespace Go.Proofs.YtedbpmckgiifpaaGreat
set_option linter.unusedSimpArgs false
set_option linter.unusedVariables false

def Sh (p q : Pr) : Prop := ∀ x ∈ p.pages, ∀ y ∈ q.pages, x.f = y.f → x.s = true ∧ y.s = true
/-- A program that is valid by itself. -/
structure Good1 (F : Int) (p : Pr) : Prop where
  ids : 1 ≤ p.id ∧ p.id ≤ 999
  plen : p.pages.length ≤ 16
  pasc : p.pages.Pairwise (·.n < ·.n)
  pnum : ∀ x ∈ p.pages, 0 ≤ x.n ∧ x.n ≤ 999 ∧ 0 ≤ x.f ∧ x.f < F
  pfr : p.pages.Pairwise (·.f ≠ ·.f)
  dead : p.dead = true → p.pages = []
  told : p.told.length ≤ 200
structure GoodP (F : Int) (ps : List Pr) : Prop where
  len : ps.length ≤ 8
  one : ∀ p ∈ ps, Good1 F p
  asc : ps.Pairwise (·.id < ·.id)
  shar : ps.Pairwise Sh
theorem Good1.mono {F F' : Int} {p : Pr} (h : Good1 F p) (hF : F ≤ F') : Good1 F' p :=
  ⟨h.ids, h.plen, h.pasc, fun x hx => by have := h.pnum x hx; omega, h.pfr, h.dead, h.told⟩
theorem GoodP.mono {F F' : Int} {ps : List Pr} (h : GoodP F ps) (hF : F ≤ F') : GoodP F' ps := ⟨h.len, fun p hp => (h.one p hp).mono hF, h.asc, h.shar⟩
theorem pairwise_set' {α : Type} [Inhabited α] {R : α → α → Prop} {l : List α} {i : Nat} {x : α} (h : l.Pairwise R) (hi : i < l.length) (h1 : ∀ a ∈ l, R a l[i]! → R a x) (h2 : ∀ b ∈ l, R l[i]! b → R x b) : (l.set i x).Pairwise R := by
  rw [List.set_eq_take_append_cons_drop, if_pos hi]
  have e : l = l.take i ++ (l[i]! :: l.drop (i + 1)) := by rw [getElem!_pos l i hi, ← List.drop_eq_getElem_cons hi, List.take_append_drop]
  have h' := h
  rw [e, List.pairwise_append, List.pairwise_cons] at h'
  obtain ⟨a, ⟨b1, b2⟩, c⟩ := h'
  refine List.pairwise_append.2 ⟨a, List.pairwise_cons.2 ⟨fun y hy => h2 y (List.mem_of_mem_drop hy) (b1 y hy), b2⟩, fun y hy z hz => ?_⟩
  rcases List.mem_cons.1 hz with rfl | hz
  · exact h1 y (List.mem_of_mem_take hy) (c y hy _ (by simp))
  · exact c y hy z (by simp [hz])
theorem pairwise_ins {α : Type} {R : α → α → Prop} {l1 l2 : List α} {x : α} (h : (l1 ++ l2).Pairwise R) (h1 : ∀ a ∈ l1, R a x) (h2 : ∀ b ∈ l2, R x b) : (l1 ++ x :: l2).Pairwise R := by
  rw [List.pairwise_append] at h ⊢
  refine ⟨h.1, List.pairwise_cons.2 ⟨h2, h.2.1⟩, fun a ha b hb => ?_⟩
  rcases List.mem_cons.1 hb with rfl | hb
  · exact h1 a ha
  · exact h.2.2 a ha b hb
/-- Behind the place all are greater. -/
theorem drop_gt {α : Type} {k : α → Int} {n : Int} : ∀ {l : List α}, l.Pairwise (fun a b => k a < k b) → (∀ a ∈ l, k a ≠ n) → ∀ b ∈ l.dropWhile (fun y => decide (k y < n)), n < k b
  | [], _, _, b, hb => by simp at hb
  | a :: l, h, hn, b, hb => by
    rw [List.dropWhile_cons] at hb
    have h' := List.pairwise_cons.1 h
    by_cases e : k a < n
    · rw [if_pos (by simpa using e)] at hb
      exact drop_gt h'.2 (fun a ha => hn a (by simp [ha])) b hb
    · rw [if_neg (by simpa using e)] at hb
      have h1 : n < k a := by have := hn a (by simp); omega
      rcases List.mem_cons.1 hb with rfl | hb
      · exact h1
      · have := h'.1 b hb; omega
theorem take_lt {α : Type} {k : α → Int} {n : Int} {l : List α} : ∀ b ∈ l.takeWhile (fun y => decide (k y < n)), k b < n := fun b hb => by
  have := List.all_eq_true.1 (List.all_takeWhile (l := l) (p := fun y => decide (k y < n))) b hb
  exact of_decide_eq_true this
theorem mem_insPg {l : List Pg} {x y : Pg} (h : y ∈ insPg l x) : y = x ∨ y ∈ l := by
  unfold insPg at h
  rcases List.mem_append.1 h with h | h
  · exact .inr ((List.takeWhile_sublist _).subset h)
  · rcases List.mem_cons.1 h with h | h
    · exact .inl h
    · exact .inr ((List.dropWhile_sublist _).subset h)
theorem mem_insPr {l : List Pr} {x y : Pr} (h : y ∈ insPr l x) : y = x ∨ y ∈ l := by
  unfold insPr at h
  rcases List.mem_append.1 h with h | h
  · exact .inr ((List.takeWhile_sublist _).subset h)
  · rcases List.mem_cons.1 h with h | h
    · exact .inl h
    · exact .inr ((List.dropWhile_sublist _).subset h)
theorem insPg_len (l : List Pg) (x : Pg) : (insPg l x).length = l.length + 1 := by
  have := congrArg List.length (List.takeWhile_append_dropWhile (p := fun y : Pg => decide (y.n < x.n)) (l := l))
  rw [List.length_append] at this
  unfold insPg
  rw [List.length_append, List.length_cons]
  omega
theorem insPr_len (l : List Pr) (x : Pr) : (insPr l x).length = l.length + 1 := by
  have := congrArg List.length (List.takeWhile_append_dropWhile (p := fun y : Pr => decide (y.id < x.id)) (l := l))
  rw [List.length_append] at this
  unfold insPr
  rw [List.length_append, List.length_cons]
  omega
theorem used_not {ps : List Pr} {f : Int} (h : ¬ usedB ps f = true) : ∀ p ∈ ps, ∀ x ∈ p.pages, x.f ≠ f := fun p hp x hx e => h (by
  unfold usedB
  exact List.any_eq_true.2 ⟨p, hp, List.any_eq_true.2 ⟨x, hx, decide_eq_true e⟩⟩)
theorem live_at {ps : List Pr} {id : Int} {i : Nat} (h : ps.findIdx? (live id) = some i) : i < ps.length ∧ (ps[i]!).id = id ∧ (ps[i]!).dead = false := by
  obtain ⟨h1, h2, -⟩ := List.findIdx?_eq_some_iff_getElem.1 h
  refine ⟨h1, ?_⟩
  rw [getElem!_pos ps i h1]
  unfold live at h2
  simpa using h2
theorem at_mem {α : Type} [Inhabited α] {l : List α} {i : Nat} (h : i < l.length) : l[i]! ∈ l := by rw [getElem!_pos l i h]; exact List.getElem_mem h
theorem GoodP.set {F : Int} {ps : List Pr} (h : GoodP F ps) {i : Nat} (hi : i < ps.length) {p : Pr} (hp : Good1 F p) (hid : p.id = (ps[i]!).id) (h1 : ∀ a ∈ ps, Sh a ps[i]! → Sh a p) (h2 : ∀ a ∈ ps, Sh ps[i]! a → Sh p a) : GoodP F (ps.set i p) :=
  ⟨by rw [List.length_set]; exact h.len, fun x hx => by
    rcases List.mem_or_eq_of_mem_set hx with hx | rfl
    · exact h.one x hx
    · exact hp,
   pairwise_set' h.asc hi (fun a _ e => by rw [hid]; exact e) (fun a _ e => by rw [hid]; exact e), pairwise_set' h.shar hi h1 h2⟩
theorem GoodP.map {F : Int} {ps out : List Pr} (h : GoodP F ps) {id n f : Int} (hf : f < F) (e : mapP ps id n f = (0, out)) : GoodP F out ∧ out.length = ps.length := by
  unfold mapP at e
  cases hi : ps.findIdx? (live id) with
  | none => rw [hi] at e; cases e
  | some i =>
    rw [hi] at e
    dsimp only at e
    obtain ⟨hlt, hid, hd⟩ := live_at hi
    split at e
    · cases e
    · split at e
      · cases e
      · split at e
        · cases e
        · split at e
          · cases e
          · rename_i r1 r2 r3 r4
            cases e
            refine ⟨?_, by rw [List.length_set]⟩
            have hg := h.one _ (at_mem hlt)
            have hu := used_not r3
            have hmem := at_mem hlt
            generalize hq : ps[i]! = q at *
            refine h.set hlt ⟨hg.ids, by rw [insPg_len]; omega, ?_, fun x hx => ?_, ?_, fun hdd => ?_, hg.told⟩ (by rw [hq]) (fun a ha hs x hx y hy exy => ?_) (fun a ha hs x hx y hy exy => ?_)
            · unfold insPg
              refine pairwise_ins (by rw [List.takeWhile_append_dropWhile]; exact hg.pasc) (fun a ha => take_lt (k := fun y : Pg => y.n) a ha) (fun b hb => drop_gt (k := fun y : Pg => y.n) hg.pasc (fun a ha e => ?_) b hb)
              exact r2 (List.any_eq_true.2 ⟨a, ha, decide_eq_true e⟩)
            · rcases mem_insPg hx with rfl | hx
              · dsimp only; omega
              · exact hg.pnum x hx
            · unfold insPg
              refine pairwise_ins (by rw [List.takeWhile_append_dropWhile]; exact hg.pfr) (fun a ha => ?_) (fun b hb => ?_)
              · exact hu q hmem a ((List.takeWhile_sublist _).subset ha)
              · exact fun e => hu q hmem b ((List.dropWhile_sublist _).subset hb) e.symm
            · exact absurd (show q.dead = true from hdd) (by rw [hd]; decide)
            · rcases mem_insPg hy with rfl | hy
              · exact absurd exy (hu a ha x hx)
              · rw [hq] at hs; exact hs x hx y hy exy
            · rcases mem_insPg hx with rfl | hx
              · exact absurd exy.symm (hu a ha y hy)
              · rw [hq] at hs; exact hs x hx y hy exy
theorem Sh.share {a p : Pr} (h : Sh a p) : Sh a (shareP p) := fun x hx y hy e => by
  unfold shareP at hy
  obtain ⟨z, hz, rfl⟩ := List.mem_map.1 hy
  exact ⟨(h x hx z hz e).1, rfl⟩
theorem Sh.symm {a p : Pr} (h : Sh a p) : Sh p a := fun x hx y hy e => (h y hy x hx e.symm).symm
theorem Good1.share {F : Int} {p : Pr} (h : Good1 F p) : Good1 F (shareP p) := by
  refine ⟨h.ids, by unfold shareP; rw [List.length_map]; exact h.plen, ?_, fun x hx => ?_, ?_, fun hd => ?_, h.told⟩
  · unfold shareP; rw [List.pairwise_map]; exact h.pasc
  · unfold shareP at hx
    obtain ⟨z, hz, rfl⟩ := List.mem_map.1 hx
    exact h.pnum z hz
  · unfold shareP; rw [List.pairwise_map]; exact h.pfr
  · unfold shareP; rw [h.dead hd]; rfl
theorem GoodP.fork {F : Int} {ps out : List Pr} (h : GoodP F ps) {id o : Int} (e : forkP ps id o = (0, out)) : GoodP F out ∧ out.length = ps.length + 1 := by
  unfold forkP at e
  cases hi : ps.findIdx? (live id) with
  | none => rw [hi] at e; cases e
  | some i =>
    rw [hi] at e
    dsimp only at e
    obtain ⟨hlt, hid, hd⟩ := live_at hi
    split at e
    · cases e
    · split at e
      · cases e
      · split at e
        · cases e
        · rename_i r1 r2 r3
          cases e
          have hg := h.one _ (at_mem hlt)
          have hmem := at_mem hlt
          have h1 : GoodP F (ps.set i (shareP ps[i]!)) := h.set hlt hg.share rfl (fun a _ hs => hs.share) (fun a _ hs => hs.symm.share.symm)
          have hno : ∀ p ∈ ps, p.id ≠ o := fun p hp e => r2 (List.any_eq_true.2 ⟨p, hp, decide_eq_true e⟩)
          have hno2 : ∀ p ∈ ps.set i (shareP ps[i]!), p.id ≠ o := fun p hp => by
            rcases List.mem_or_eq_of_mem_set hp with hp | rfl
            · exact hno p hp
            · exact show (ps[i]!).id ≠ o from hno _ hmem
          have hgs := hg.share
          have hch : Good1 F ⟨o, (ps[i]!).tells, false, (shareP ps[i]!).pages, []⟩ := ⟨by dsimp only; omega, hgs.plen, hgs.pasc, hgs.pnum, hgs.pfr, (fun e => by cases e), Nat.zero_le _⟩
          have hsh : ∀ a ∈ ps.set i (shareP ps[i]!), Sh a ⟨o, (ps[i]!).tells, false, (shareP ps[i]!).pages, []⟩ := fun a ha => by
            rcases List.mem_or_eq_of_mem_set ha with ha' | rfl
            · obtain ⟨j, hj, hja⟩ := List.getElem_of_mem ha
              by_cases e : j = i
              · subst e
                rw [List.getElem_set_self] at hja
                subst hja
                intro x hx y hy exy
                unfold shareP at hx hy
                obtain ⟨z, hz, rfl⟩ := List.mem_map.1 hx
                obtain ⟨z', hz', rfl⟩ := List.mem_map.1 hy
                exact ⟨rfl, rfl⟩
              · rw [List.getElem_set_ne (fun e2 => e e2.symm)] at hja
                subst hja
                have hj' : j < ps.length := by simpa using hj
                have hpw := List.pairwise_iff_getElem.1 h.shar
                have hs : Sh ps[j] ps[i]! := by
                  rw [getElem!_pos ps i hlt]
                  rcases Nat.lt_or_gt_of_ne e with h' | h'
                  · exact hpw j i hj' hlt h'
                  · exact (hpw i j hlt hj' h').symm
                exact fun x hx y hy exy => hs.share x hx y hy exy
            · intro x hx y hy exy
              unfold shareP at hx hy
              obtain ⟨z, hz, rfl⟩ := List.mem_map.1 hx
              obtain ⟨z', hz', rfl⟩ := List.mem_map.1 hy
              exact ⟨rfl, rfl⟩
          refine ⟨⟨by rw [insPr_len, List.length_set]; omega, fun p hp => ?_, ?_, ?_⟩, by rw [insPr_len, List.length_set]⟩
          · rcases mem_insPr hp with rfl | hp
            · exact hch
            · exact h1.one p hp
          · unfold insPr
            exact pairwise_ins (by rw [List.takeWhile_append_dropWhile]; exact h1.asc) (fun a ha => take_lt (k := fun y : Pr => y.id) a ha) (fun b hb => drop_gt (k := fun y : Pr => y.id) h1.asc hno2 b hb)
          · unfold insPr
            exact pairwise_ins (by rw [List.takeWhile_append_dropWhile]; exact h1.shar) (fun a ha => hsh a ((List.takeWhile_sublist _).subset ha)) (fun b hb => (hsh b ((List.dropWhile_sublist _).subset hb)).symm)
theorem GoodP.ends {F : Int} {ps out : List Pr} {g : List Int} (h : GoodP F ps) {id : Int} (e : endP ps id = (0, out, g)) : GoodP F out ∧ out.length = ps.length := by
  unfold endP at e
  cases hi : ps.findIdx? (live id) with
  | none => rw [hi] at e; cases e
  | some i =>
    rw [hi] at e
    dsimp only at e
    obtain ⟨hlt, hid, hd⟩ := live_at hi
    cases e
    have hg := h.one _ (at_mem hlt)
    refine ⟨h.set hlt ⟨hg.ids, Nat.zero_le _, .nil, fun x hx => absurd hx (List.not_mem_nil), .nil, fun _ => rfl, hg.told⟩ rfl (fun a _ _ x _ y hy => absurd hy (List.not_mem_nil)) (fun a _ _ x hx => absurd hx (List.not_mem_nil)), by rw [List.length_set]⟩
end Go.Proofs.YtedbpmckgiifpaaGreat
