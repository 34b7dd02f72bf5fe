/- What a fork does, seen through Find, Own and Replace: plain words. -/
import Derived.Test.YtedbpmckgiifpaaGreatO5
import Derived.Test.YtedbpmckgiifpaaGreatPGood
namespace Go.Proofs.YtedbpmckgiifpaaGreat
set_option linter.unusedSimpArgs false
set_option linter.unusedVariables false

def zPg : Pg := ⟨0, 0, false⟩
/-- What Find answers. -/
def getP (ps : List Pr) (id n : Int) : Pg × Int :=
  match findP ps id n with
  | (0, i, k) => ((ps[i]!).pages[k]!, 0)
  | (e, _, _) => (zPg, e)
theorem live_find {ps : List Pr} (asc : ps.Pairwise (·.id < ·.id)) {k : Nat} (hk : k < ps.length) (hd : (ps[k]!).dead = false) : ps.findIdx? (live (ps[k]!).id) = some k := by
  refine findIdx_first hk (by unfold live; rw [hd, decide_eq_true rfl]; rfl) fun i hi => ?_
  have h := List.pairwise_iff_getElem.1 asc i k (by omega) hk hi
  rw [← getElem!_pos ps i (by omega), ← getElem!_pos ps k hk] at h
  unfold live
  rw [Bool.and_eq_false_iff]
  exact .inl (decide_eq_false (by omega))
theorem live_none {ps : List Pr} (asc : ps.Pairwise (·.id < ·.id)) {k : Nat} (hk : k < ps.length) (hd : (ps[k]!).dead = true) : ps.findIdx? (live (ps[k]!).id) = none := by
  refine findIdx_none fun i hi => ?_
  unfold live
  rw [Bool.and_eq_false_iff]
  rcases Nat.lt_trichotomy i k with h | h | h
  · have h := List.pairwise_iff_getElem.1 asc i k hi hk h
    rw [← getElem!_pos ps i hi, ← getElem!_pos ps k hk] at h
    exact .inl (decide_eq_false (by omega))
  · subst h; exact .inr (by rw [hd]; rfl)
  · have h := List.pairwise_iff_getElem.1 asc k i hk hi h
    rw [← getElem!_pos ps i hi, ← getElem!_pos ps k hk] at h
    exact .inl (decide_eq_false (by omega))
theorem numb_find {pg : List Pg} (asc : pg.Pairwise (·.n < ·.n)) {k : Nat} (hk : k < pg.length) : pg.findIdx? (numb (pg[k]!).n) = some k := by
  refine findIdx_first hk (by simp [numb]) fun i hi => ?_
  have h := List.pairwise_iff_getElem.1 asc i k (by omega) hk hi
  rw [← getElem!_pos pg i (by omega), ← getElem!_pos pg k hk] at h
  exact decide_eq_false (by omega)
theorem findP_at {ps : List Pr} (asc : ps.Pairwise (·.id < ·.id)) {k j : Nat} (hk : k < ps.length) (hd : (ps[k]!).dead = false) (pasc : (ps[k]!).pages.Pairwise (·.n < ·.n)) (hj : j < (ps[k]!).pages.length) : findP ps (ps[k]!).id ((ps[k]!).pages[j]!).n = (0, k, j) := by
  unfold findP
  rw [live_find asc hk hd]
  dsimp only
  rw [numb_find pasc hj]
theorem getP_at {ps : List Pr} (asc : ps.Pairwise (·.id < ·.id)) {k j : Nat} (hk : k < ps.length) (hd : (ps[k]!).dead = false) (pasc : (ps[k]!).pages.Pairwise (·.n < ·.n)) (hj : j < (ps[k]!).pages.length) : getP ps (ps[k]!).id ((ps[k]!).pages[j]!).n = ((ps[k]!).pages[j]!, 0) := by
  unfold getP
  rw [findP_at asc hk hd pasc hj]
  rfl
/-- The same with the parts named. -/
theorem getP_at' {ps : List Pr} (asc : ps.Pairwise (·.id < ·.id)) {k j : Nat} {q : Pr} {x : Pg} (hk : k < ps.length) (hq : ps[k]! = q) (hd : q.dead = false) (pasc : q.pages.Pairwise (·.n < ·.n)) (hj : j < q.pages.length) (hx : q.pages[j]! = x) : getP ps q.id x.n = (x, 0) := by
  subst hq hx; exact getP_at asc hk hd pasc hj
theorem findP_at' {ps : List Pr} (asc : ps.Pairwise (·.id < ·.id)) {k j : Nat} {q : Pr} {x : Pg} (hk : k < ps.length) (hq : ps[k]! = q) (hd : q.dead = false) (pasc : q.pages.Pairwise (·.n < ·.n)) (hj : j < q.pages.length) (hx : q.pages[j]! = x) : findP ps q.id x.n = (0, k, j) := by
  subst hq hx; exact findP_at asc hk hd pasc hj
theorem ownP_of {ps : List Pr} {id n : Int} {i k : Nat} (h : findP ps id n = (0, i, k)) (f : Int) : ownP ps id n f = (if f < 0 ∨ 64 ≤ f then (2, [], -1) else if usedB ps f = true then (43, [], -1) else (0, ps.set i { ps[i]! with pages := (ps[i]!).pages.set k ⟨((ps[i]!).pages[k]!).n, f, false⟩ }, leftP (ps.set i { ps[i]! with pages := (ps[i]!).pages.set k ⟨((ps[i]!).pages[k]!).n, f, false⟩ }) ((ps[i]!).pages[k]!).f)) := by
  unfold ownP
  rw [h]
  rfl
theorem insPr_end {l : List Pr} {x : Pr} (h : ∀ p ∈ l, p.id < x.id) : insPr l x = l ++ [x] := by
  have := takeWhile_at (p := fun y : Pr => decide (y.id < x.id)) (xs := l) (k := l.length) (Nat.le_refl _) (fun m hm => decide_eq_true (h _ (mem_at hm))) (fun h => absurd h (Nat.lt_irrefl _))
  unfold insPr
  rw [this.1, this.2, List.take_length, List.drop_length]
theorem set_bang {α : Type} [Inhabited α] {l : List α} {i : Nat} (x : α) (h : i < l.length) : (l.set i x)[i]! = x := by
  rw [getElem!_pos _ i (by rw [List.length_set]; exact h), List.getElem_set_self]
theorem set_bang_ne {α : Type} [Inhabited α] {l : List α} {i j : Nat} (x : α) (h : j < l.length) (hne : i ≠ j) : (l.set i x)[j]! = l[j]! := by
  rw [getElem!_pos _ j (by rw [List.length_set]; exact h), getElem!_pos l j h, List.getElem_set_ne hne]
theorem app_bang {α : Type} [Inhabited α] {l r : List α} {i : Nat} (h : i < l.length) : (l ++ r)[i]! = l[i]! := by
  rw [getElem!_pos _ i (by rw [List.length_append]; omega), getElem!_pos l i h, List.getElem_append_left h]
theorem app_bang_end {α : Type} [Inhabited α] {l : List α} {x : α} : (l ++ [x])[l.length]! = x := by
  rw [getElem!_pos _ _ (by simp), List.getElem_append_right (Nat.le_refl _)]; simp
theorem map_bang {α β : Type} [Inhabited α] [Inhabited β] {l : List α} {f : α → β} {i : Nat} (h : i < l.length) : (l.map f)[i]! = f l[i]! := by
  rw [getElem!_pos _ i (by rw [List.length_map]; exact h), getElem!_pos l i h, List.getElem_map]

def childP (p : Pr) : Pr := ⟨900, p.tells, false, (shareP p).pages, []⟩
/-- The programs after the fork. -/
def forkX (ps : List Pr) (k : Nat) : List Pr := ps.set k (shareP ps[k]!) ++ [childP ps[k]!]
theorem fork_dead {F : Int} {ps : List Pr} (h : GoodP F ps) {k : Nat} (hk : k < ps.length) (hd : (ps[k]!).dead = true) : forkP ps (ps[k]!).id 900 = (42, []) := by
  unfold forkP; rw [live_none h.asc hk hd]
theorem no900 {ps : List Pr} (hlow : ∀ p ∈ ps, p.id ≤ 20) : ¬ ps.any (fun p => decide (p.id = 900)) = true := by
  rw [List.any_eq_true]
  rintro ⟨p, hp, h⟩
  have := hlow p hp
  have := of_decide_eq_true h
  omega
theorem fork_full {F : Int} {ps : List Pr} (h : GoodP F ps) (hlow : ∀ p ∈ ps, p.id ≤ 20) {k : Nat} (hk : k < ps.length) (hd : (ps[k]!).dead = false) (hl : ps.length = 8) : forkP ps (ps[k]!).id 900 = (16, []) := by
  unfold forkP; rw [live_find h.asc hk hd]
  dsimp only
  rw [if_neg (by decide), if_neg (no900 hlow), if_pos (by omega)]
theorem fork_ok {F : Int} {ps : List Pr} (h : GoodP F ps) (hlow : ∀ p ∈ ps, p.id ≤ 20) {k : Nat} (hk : k < ps.length) (hd : (ps[k]!).dead = false) (hl : ps.length ≠ 8) : forkP ps (ps[k]!).id 900 = (0, forkX ps k) := by
  have := h.len
  unfold forkP; rw [live_find h.asc hk hd]
  dsimp only
  rw [if_neg (by decide), if_neg (no900 hlow), if_neg (by omega)]
  unfold forkX childP
  rw [insPr_end]
  intro p hp
  rcases List.mem_or_eq_of_mem_set hp with hp | rfl
  · have := hlow p hp; show p.id < 900; omega
  · have := hlow _ (at_mem hk); show (ps[k]!).id < 900; omega
structure ForkX (ps : List Pr) (k : Nat) (x : List Pr) : Prop where
  good : GoodP 8 x
  len : x.length = ps.length + 1
  old : x[k]! = shareP ps[k]!
  new : x[ps.length]! = childP ps[k]!
theorem forkX_of {ps : List Pr} (h : GoodP 8 ps) (hlow : ∀ p ∈ ps, p.id ≤ 20) {k : Nat} (hk : k < ps.length) (hd : (ps[k]!).dead = false) (hl : ps.length ≠ 8) : ForkX ps k (forkX ps k) := by
  have h1 := h.fork (fork_ok h hlow hk hd hl)
  refine ⟨h1.1, h1.2, ?_, ?_⟩
  · unfold forkX; rw [app_bang (by rw [List.length_set]; exact hk), set_bang _ hk]
  · unfold forkX
    have := app_bang_end (l := ps.set k (shareP ps[k]!)) (x := childP ps[k]!)
    rwa [List.length_set] at this
def shPg (x : Pg) : Pg := { x with s := true }
theorem share_at {p : Pr} {j : Nat} (hj : j < p.pages.length) : (shareP p).pages[j]! = shPg p.pages[j]! := by
  unfold shareP; dsimp only; rw [map_bang hj]; rfl
theorem share_len (p : Pr) : (shareP p).pages.length = p.pages.length := by unfold shareP; rw [List.length_map]
theorem ForkX.find1 {ps x : List Pr} {k j : Nat} (h : ForkX ps k x) (hk : k < ps.length) (hd : (ps[k]!).dead = false) (hj : j < (ps[k]!).pages.length) : getP x (ps[k]!).id ((ps[k]!).pages[j]!).n = (shPg (ps[k]!).pages[j]!, 0) := by
  have hg := h.good.one _ (at_mem (show k < x.length by rw [h.len]; omega))
  rw [h.old] at hg
  exact getP_at' (q := shareP ps[k]!) (x := shPg (ps[k]!).pages[j]!) h.good.asc (by rw [h.len]; omega) h.old hd hg.pasc (by rw [share_len]; exact hj) (share_at hj)
theorem ForkX.find2 {ps x : List Pr} {k j : Nat} (h : ForkX ps k x) (hk : k < ps.length) (hd : (ps[k]!).dead = false) (hj : j < (ps[k]!).pages.length) : getP x 900 ((ps[k]!).pages[j]!).n = (shPg (ps[k]!).pages[j]!, 0) := by
  have hg := h.good.one _ (at_mem (show ps.length < x.length by rw [h.len]; omega))
  rw [h.new] at hg
  exact getP_at' (q := childP ps[k]!) (x := shPg (ps[k]!).pages[j]!) h.good.asc (by rw [h.len]; omega) h.new rfl hg.pasc (by show _ < (shareP ps[k]!).pages.length; rw [share_len]; exact hj) (share_at hj)
theorem ForkX.at2 {ps x : List Pr} {k j : Nat} (h : ForkX ps k x) (hk : k < ps.length) (hd : (ps[k]!).dead = false) (hj : j < (ps[k]!).pages.length) : findP x 900 ((ps[k]!).pages[j]!).n = (0, ps.length, j) := by
  have hg := h.good.one _ (at_mem (show ps.length < x.length by rw [h.len]; omega))
  rw [h.new] at hg
  exact findP_at' (q := childP ps[k]!) (x := shPg (ps[k]!).pages[j]!) h.good.asc (by rw [h.len]; omega) h.new rfl hg.pasc (by show _ < (shareP ps[k]!).pages.length; rw [share_len]; exact hj) (share_at hj)
theorem unused_of {F : Int} {l : List Pr} (hl : GoodP F l) {f : Int} (hf : F ≤ f) : ¬ usedB l f = true := by
  unfold usedB
  rw [List.any_eq_true]
  rintro ⟨p, hp, h⟩
  obtain ⟨y, hy, h⟩ := List.any_eq_true.1 h
  have := (hl.one p hp).pnum y hy
  have := of_decide_eq_true h
  omega
theorem used_of {l : List Pr} {i j : Nat} {f : Int} (hi : i < l.length) (hj : j < (l[i]!).pages.length) (hf : ((l[i]!).pages[j]!).f = f) : usedB l f = true := by
  unfold usedB
  exact List.any_eq_true.2 ⟨l[i]!, at_mem hi, List.any_eq_true.2 ⟨_, at_mem hj, decide_eq_true hf⟩⟩
/-- Own on the child. -/
def ownZ (ps x : List Pr) (k j : Nat) : List Pr := x.set ps.length { childP ps[k]! with pages := (childP ps[k]!).pages.set j ⟨((ps[k]!).pages[j]!).n, 50, false⟩ }
theorem ForkX.own {ps x : List Pr} {k j : Nat} (h : ForkX ps k x) (hk : k < ps.length) (hd : (ps[k]!).dead = false) (hj : j < (ps[k]!).pages.length) : ownP x 900 ((ps[k]!).pages[j]!).n 50 = (0, ownZ ps x k j, -1) := by
  have hn : (childP ps[k]!).pages[j]! = shPg (ps[k]!).pages[j]! := share_at hj
  have hkx : k < x.length := by rw [h.len]; omega
  rw [ownP_of (h.at2 hk hd hj)]
  rw [if_neg (by decide), if_neg (unused_of h.good (by decide)), h.new, hn]
  show (0, ownZ ps x k j, leftP (ownZ ps x k j) ((ps[k]!).pages[j]!).f) = _
  have e : (ownZ ps x k j)[k]! = shareP ps[k]! := by unfold ownZ; rw [set_bang_ne _ hkx (by omega), h.old]
  rw [show leftP (ownZ ps x k j) ((ps[k]!).pages[j]!).f = -1 by
    unfold leftP
    rw [if_pos (used_of (i := k) (j := j) (by unfold ownZ; rw [List.length_set]; exact hkx) (by rw [e, share_len]; exact hj) (by rw [e, share_at hj]; rfl))]]
theorem ForkX.ownAsc {ps x : List Pr} {k j : Nat} (h : ForkX ps k x) (hk : k < ps.length) (hd : (ps[k]!).dead = false) (hj : j < (ps[k]!).pages.length) : (ownZ ps x k j).Pairwise (·.id < ·.id) := by
  have hl : ps.length < x.length := by rw [h.len]; omega
  unfold ownZ
  exact pairwise_set' h.good.asc hl (fun a _ e => by rw [h.new] at e; exact e) (fun a _ e => by rw [h.new] at e; exact e)
theorem ForkX.own1 {ps x : List Pr} {k j : Nat} (h : ForkX ps k x) (hk : k < ps.length) (hd : (ps[k]!).dead = false) (hj : j < (ps[k]!).pages.length) : getP (ownZ ps x k j) (ps[k]!).id ((ps[k]!).pages[j]!).n = (shPg (ps[k]!).pages[j]!, 0) := by
  have hkx : k < x.length := by rw [h.len]; omega
  have hg := h.good.one _ (at_mem hkx)
  rw [h.old] at hg
  have e : (ownZ ps x k j)[k]! = shareP ps[k]! := by unfold ownZ; rw [set_bang_ne _ hkx (by omega), h.old]
  exact getP_at' (q := shareP ps[k]!) (x := shPg (ps[k]!).pages[j]!) (h.ownAsc hk hd hj) (by unfold ownZ; rw [List.length_set]; exact hkx) e hd hg.pasc (by rw [share_len]; exact hj) (share_at hj)
theorem ForkX.own2 {ps x : List Pr} {k j : Nat} (h : ForkX ps k x) (hk : k < ps.length) (hd : (ps[k]!).dead = false) (hj : j < (ps[k]!).pages.length) : getP (ownZ ps x k j) 900 ((ps[k]!).pages[j]!).n = (⟨((ps[k]!).pages[j]!).n, 50, false⟩, 0) := by
  have hl : ps.length < x.length := by rw [h.len]; omega
  have hg := h.good.one _ (at_mem hl)
  rw [h.new] at hg
  have hjc : j < (childP ps[k]!).pages.length := by show _ < (shareP ps[k]!).pages.length; rw [share_len]; exact hj
  have hn : (childP ps[k]!).pages[j]! = shPg (ps[k]!).pages[j]! := share_at hj
  exact getP_at' (q := { childP ps[k]! with pages := (childP ps[k]!).pages.set j ⟨((ps[k]!).pages[j]!).n, 50, false⟩ }) (x := ⟨((ps[k]!).pages[j]!).n, 50, false⟩) (h.ownAsc hk hd hj) (by unfold ownZ; rw [List.length_set]; exact hl) (by unfold ownZ; rw [set_bang _ hl]) rfl
    (pairwise_set' hg.pasc hjc (fun a _ e => by rw [hn] at e; exact e) (fun a _ e => by rw [hn] at e; exact e)) (by show _ < (List.set _ _ _).length; rw [List.length_set]; exact hjc) (set_bang _ hjc)
/-- Replace. -/
theorem ForkX.repl {ps x : List Pr} {k j : Nat} (h : ForkX ps k x) (hk : k < ps.length) (hd : (ps[k]!).dead = false) (hj : j < (ps[k]!).pages.length) : replP x ((ps[k]!).pages[j]!).f 51 = (0, x.map (moveP ((ps[k]!).pages[j]!).f 51)) := by
  have hkx : k < x.length := by rw [h.len]; omega
  have hg := h.good.one _ (at_mem hkx)
  rw [h.old] at hg
  have hf := hg.pnum (shPg (ps[k]!).pages[j]!) (by rw [← share_at hj]; exact at_mem (by rw [share_len]; exact hj))
  have hf2 : 0 ≤ ((ps[k]!).pages[j]!).f ∧ ((ps[k]!).pages[j]!).f < 8 := hf.2.2
  unfold replP
  rw [if_neg (by omega), if_neg]
  rintro ⟨-, hu⟩
  exact unused_of h.good (by decide) hu
theorem move_asc {a b : Int} {p : Pr} (h : p.pages.Pairwise (·.n < ·.n)) : (moveP a b p).pages.Pairwise (·.n < ·.n) := by
  unfold moveP
  dsimp only
  rw [List.pairwise_map]
  refine h.imp fun {x y} e => ?_
  have : ∀ z : Pg, (if z.f = a then { z with f := b } else z : Pg).n = z.n := fun z => by split <;> rfl
  rw [this, this]; exact e
theorem move_at {b : Int} {p : Pr} {j : Nat} (hj : j < p.pages.length) {y : Pg} (hy : p.pages[j]! = y) : (moveP y.f b p).pages[j]! = { y with f := b } := by
  unfold moveP
  dsimp only
  rw [map_bang hj, hy, if_pos rfl]
theorem moves_asc {a b : Int} {l : List Pr} (h : l.Pairwise (·.id < ·.id)) : (l.map (moveP a b)).Pairwise (·.id < ·.id) := by rw [List.pairwise_map]; exact h
theorem ForkX.repl1 {ps x : List Pr} {k j : Nat} (h : ForkX ps k x) (hk : k < ps.length) (hd : (ps[k]!).dead = false) (hj : j < (ps[k]!).pages.length) : getP (x.map (moveP ((ps[k]!).pages[j]!).f 51)) (ps[k]!).id ((ps[k]!).pages[j]!).n = (⟨((ps[k]!).pages[j]!).n, 51, true⟩, 0) := by
  have hkx : k < x.length := by rw [h.len]; omega
  have hg := h.good.one _ (at_mem hkx)
  rw [h.old] at hg
  exact getP_at' (k := k) (j := j) (q := moveP ((ps[k]!).pages[j]!).f 51 (shareP ps[k]!)) (x := ⟨((ps[k]!).pages[j]!).n, 51, true⟩) (moves_asc h.good.asc) (by rw [List.length_map]; exact hkx) (by rw [map_bang hkx, h.old]) hd (move_asc hg.pasc) (by unfold moveP; dsimp only; rw [List.length_map, share_len]; exact hj)
    (move_at (y := shPg (ps[k]!).pages[j]!) (by rw [share_len]; exact hj) (share_at hj))
theorem ForkX.repl2 {ps x : List Pr} {k j : Nat} (h : ForkX ps k x) (hk : k < ps.length) (hd : (ps[k]!).dead = false) (hj : j < (ps[k]!).pages.length) : getP (x.map (moveP ((ps[k]!).pages[j]!).f 51)) 900 ((ps[k]!).pages[j]!).n = (⟨((ps[k]!).pages[j]!).n, 51, true⟩, 0) := by
  have hl : ps.length < x.length := by rw [h.len]; omega
  have hg := h.good.one _ (at_mem hl)
  rw [h.new] at hg
  have hjc : j < (childP ps[k]!).pages.length := by show _ < (shareP ps[k]!).pages.length; rw [share_len]; exact hj
  exact getP_at' (k := ps.length) (j := j) (q := moveP ((ps[k]!).pages[j]!).f 51 (childP ps[k]!)) (x := ⟨((ps[k]!).pages[j]!).n, 51, true⟩) (moves_asc h.good.asc) (by rw [List.length_map]; exact hl) (by rw [map_bang hl, h.new]) rfl (move_asc hg.pasc) (by unfold moveP; dsimp only; rw [List.length_map]; exact hjc)
    (move_at (y := shPg (ps[k]!).pages[j]!) hjc (share_at hj))
end Go.Proofs.YtedbpmckgiifpaaGreat
