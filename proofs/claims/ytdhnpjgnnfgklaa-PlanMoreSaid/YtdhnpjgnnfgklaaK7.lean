/- Several texts in one: PlA, PlB, PlC, PlD. -/
import Derived.Test.YtdhnpjgnnfgklaaK5
/- Plan (chapter 39), plain: needs, what rows and ranks save, the best rows of a set of ranks, the best plan. -/
namespace Go.Proofs.Ytdhnpjgnnfgklaa
set_option linter.unusedSimpArgs false
set_option linter.unusedVariables false

instance inhP6 : Inhabited P6 := ⟨⟨0, 0, 0, 0, 0, 0⟩⟩
/-- A need: a place, a loss. -/
structure Nd where
  p : P6
  loss : Int
deriving DecidableEq, Inhabited
/-- A plan. -/
structure PlR where
  rows : List Int
  ranks : List P6
  saved : Int
deriving DecidableEq, Inhabited
def rankP (p : P6) : P6 := ⟨p.a, p.b, p.c, 0, 0, 0⟩
def bankP (p : P6) : P6 := ⟨p.a, p.b, p.c, p.d, 0, 0⟩
def chanP (p : P6) : P6 := ⟨p.a, p.b, 0, 0, 0, 0⟩
def befP (x y : P6) : Bool := decide (x.a < y.a ∨ x.a = y.a ∧ (x.b < y.b ∨ x.b = y.b ∧ x.c < y.c))
def inR (rs : List P6) (p : P6) : Bool := rs.any fun r => decide (rankP r = rankP p)
def sumOn {α : Type} (on : α → Bool) (f : α → Int) : List α → Int
  | [] => 0
  | x :: l => (if on x then f x else 0) + sumOn on f l
def lossZ (z : Nd × Nat) : Int := z.1.loss
def worthP (l : List Nd) (rows : List Int) (rs : List P6) : Int := sumOn (fun z => inR rs z.1.p || rows.contains (z.2 : Int)) lossZ l.zipIdx
def aheadB (y x : Nd × Nat) : Bool := decide (bankP y.1.p = bankP x.1.p ∧ (x.1.loss < y.1.loss ∨ y.1.loss = x.1.loss ∧ y.2 < x.2))
def rowsZ (l : List Nd) (a : Int) (rs : List P6) : List (Nd × Nat) := l.zipIdx.filter fun x => decide (x.1.loss ≠ 0) && !inR rs x.1.p && decide ((l.zipIdx.countP (aheadB · x) : Int) < a)
def rowsFor (l : List Nd) (a : Int) (rs : List P6) : List Int := (rowsZ l a rs).map fun x => (x.2 : Int)
def crowdP {α : Type} [DecidableEq α] (f : P6 → α) (rs : List P6) (most : Int) : Bool := rs.any fun r => decide (most < (rs.countP fun q => decide (f q = f r) : Int))
def listsP : List P6 → List P6 → Bool
  | x :: a, y :: b => if x ≠ y then befP x y else listsP a b
  | _, _ => false
def betterP (p q : PlR) : Bool := decide (q.saved < p.saved) || decide (p.saved = q.saved) && (decide (p.ranks.length < q.ranks.length) || decide (p.ranks.length = q.ranks.length) && listsP p.ranks q.ranks)
def planOf (l : List Nd) (a : Int) (rs : List P6) : PlR := ⟨rowsFor l a rs, rs, worthP l (rowsFor l a rs) rs⟩
def pickS : List P6 → Nat → List P6
  | [], _ => []
  | x :: xs, s => if s % 2 = 1 then x :: pickS xs (s / 2) else pickS xs (s / 2)
def insR (r : P6) : List P6 → List P6
  | [] => [r]
  | y :: ys => if befP y r then y :: insR r ys else if y = r then y :: ys else r :: y :: ys
def allR (l : List Nd) : List P6 := l.foldl (fun acc x => insR (rankP x.p) acc) []
def bestStep (all : List P6) (l : List Nd) (a b : Int) (acc : PlR) (set : Nat) : PlR :=
  if crowdP chanP (pickS all set) b then acc else if betterP (planOf l a (pickS all set)) acc then planOf l a (pickS all set) else acc
def bestN (all : List P6) (l : List Nd) (a b : Int) : Nat → PlR
  | 0 => ⟨[], [], -1⟩
  | n + 1 => bestStep all l a b (bestN all l a b n) n
def bestP (l : List Nd) (a b : Int) : PlR := bestN (allR l) l a b (2 ^ (allR l).length)

/-! ### sums -/
theorem sumOn_append {α : Type} (on : α → Bool) (f : α → Int) : ∀ l m : List α, sumOn on f (l ++ m) = sumOn on f l + sumOn on f m
  | [], m => by simp [sumOn]
  | x :: l, m => by simp [sumOn, sumOn_append on f l m]; omega
theorem sumOn_congr {α : Type} {on on' : α → Bool} {f f' : α → Int} : ∀ {l : List α}, (∀ x ∈ l, (if on x then f x else 0) = if on' x then f' x else 0) → sumOn on f l = sumOn on' f' l
  | [], _ => rfl
  | x :: l, h => by rw [sumOn, sumOn, h x (by simp), sumOn_congr fun y hy => h y (by simp [hy])]
theorem sumOn_le {α : Type} {on on' : α → Bool} {f f' : α → Int} : ∀ {l : List α}, (∀ x ∈ l, (if on x then f x else 0) ≤ if on' x then f' x else 0) → sumOn on f l ≤ sumOn on' f' l
  | [], _ => Int.le_refl _
  | x :: l, h => by rw [sumOn, sumOn]; have := h x (by simp); have := sumOn_le fun y hy => h y (List.mem_cons_of_mem x hy); omega
theorem sumOn_nonneg {α : Type} {on : α → Bool} {f : α → Int} {l : List α} (h : ∀ x ∈ l, 0 ≤ f x) : 0 ≤ sumOn on f l := by
  have h1 : sumOn (fun _ => false) f l = 0 := by
    clear h
    induction l with
    | nil => rfl
    | cons x l ih => rw [sumOn, ih]; simp
  have := sumOn_le (on := fun _ => false) (on' := on) (f := f) (f' := f) (l := l) fun x hx => by
    have := h x hx
    by_cases e : on x <;> simp [e]
    exact this
  omega
/-! ### the order of ranks -/
def RankIs (p : P6) : Prop := p.d = 0 ∧ p.e = 0 ∧ p.f = 0
theorem rankP_is (p : P6) : RankIs (rankP p) := ⟨rfl, rfl, rfl⟩
theorem rankP_of {p : P6} (h : RankIs p) : rankP p = p := by
  obtain ⟨a, b, c, d, e, f⟩ := p
  obtain ⟨h1, h2, h3⟩ := h
  simp only at h1 h2 h3
  subst h1 h2 h3; rfl
theorem befP_iff {x y : P6} : befP x y = true ↔ (x.a < y.a ∨ x.a = y.a ∧ (x.b < y.b ∨ x.b = y.b ∧ x.c < y.c)) := decide_eq_true_iff
theorem befP_irrefl (x : P6) : befP x x = false := by
  rw [← Bool.not_eq_true, befP_iff]; omega
theorem befP_trans {x y z : P6} (h1 : befP x y = true) (h2 : befP y z = true) : befP x z = true := by
  rw [befP_iff] at *; omega
theorem befP_total {x y : P6} (hx : RankIs x) (hy : RankIs y) (hn : x ≠ y) : befP x y = true ∨ befP y x = true := by
  rw [befP_iff, befP_iff]
  obtain ⟨a, b, c, d, e, f⟩ := x
  obtain ⟨a', b', c', d', e', f'⟩ := y
  obtain ⟨h1, h2, h3⟩ := hx
  obtain ⟨h4, h5, h6⟩ := hy
  simp only at h1 h2 h3 h4 h5 h6
  subst h1 h2 h3 h4 h5 h6
  simp only [ne_eq, P6.mk.injEq, and_true] at hn
  simp only
  omega
/-- Ranks in rising order. -/
def Rising (l : List P6) : Prop := l.Pairwise fun x y => befP x y = true
theorem Rising.nodup {l : List P6} (h : Rising l) : l.Nodup := h.imp fun {x y} hxy e => by subst e; rw [befP_irrefl] at hxy; cases hxy
/-- Lists in rising order with the same members are one. -/
theorem sorted_unique {α : Type} {R : α → α → Prop} (hi : ∀ x, ¬ R x x) (ht : ∀ x y z, R x y → R y z → R x z) : ∀ {l m : List α}, l.Pairwise R → m.Pairwise R → (∀ x, x ∈ l ↔ x ∈ m) → l = m
  | [], [], _, _, _ => rfl
  | [], y :: m, _, _, h => absurd ((h y).2 (by simp)) (by simp)
  | x :: l, [], _, _, h => absurd ((h x).1 (by simp)) (by simp)
  | x :: l, y :: m, hl, hm, h => by
    rw [List.pairwise_cons] at hl hm
    have hxy : x = y := by
      have h1 := (h x).1 (by simp)
      have h2 := (h y).2 (by simp)
      rcases List.mem_cons.1 h1 with e | h1
      · exact e
      · rcases List.mem_cons.1 h2 with e | h2
        · exact e.symm
        · exact absurd (ht _ _ _ (hl.1 _ h2) (hm.1 _ h1)) (hi x)
    subst hxy
    have : l = m := sorted_unique hi ht hl.2 hm.2 fun z => by
      have hz := h z
      simp only [List.mem_cons] at hz
      constructor
      · intro hzl
        rcases hz.1 (.inr hzl) with e | e
        · subst e; exact absurd (hl.1 _ hzl) (hi _)
        · exact e
      · intro hzm
        rcases hz.2 (.inr hzm) with e | e
        · subst e; exact absurd (hm.1 _ hzm) (hi _)
        · exact e
    rw [this]
theorem Rising.unique {l m : List P6} (hl : Rising l) (hm : Rising m) (h : ∀ x, x ∈ l ↔ x ∈ m) : l = m :=
  sorted_unique (R := fun x y => befP x y = true) (fun x hx => by rw [befP_irrefl] at hx; cases hx) (fun _ _ _ => befP_trans) hl hm h
theorem insR_mem (r : P6) : ∀ (l : List P6) (x : P6), x ∈ insR r l ↔ x = r ∨ x ∈ l
  | [], x => by simp [insR]
  | y :: ys, x => by
    rw [insR]
    split
    · simp only [List.mem_cons, insR_mem r ys x]
      constructor
      · rintro (h | h | h) <;> simp [h]
      · rintro (h | h | h) <;> simp [h]
    · split
      · rename_i h; subst h; simp
      · simp
theorem insR_rising {r : P6} (hr : RankIs r) : ∀ {l : List P6}, (∀ x ∈ l, RankIs x) → Rising l → Rising (insR r l)
  | [], _, _ => by simp [insR, Rising]
  | y :: ys, hR, h => by
    have h' := List.pairwise_cons.1 h
    rw [insR]
    split
    · rename_i hb
      refine List.pairwise_cons.2 ⟨fun z hz => ?_, insR_rising hr (fun x hx => hR x (by simp [hx])) h'.2⟩
      rcases (insR_mem r ys z).1 hz with e | e
      · rw [e]; exact hb
      · exact h'.1 z e
    · rename_i hb
      split
      · exact h
      · rename_i hn
        have hry : befP r y = true := by
          rcases befP_total (hR y (by simp)) hr hn with e | e
          · exact absurd e hb
          · exact e
        refine List.pairwise_cons.2 ⟨fun z hz => ?_, h⟩
        rcases List.mem_cons.1 hz with e | e
        · rw [e]; exact hry
        · exact befP_trans hry (h'.1 z e)
theorem foldR_spec : ∀ (l : List Nd) (acc : List P6), (∀ x ∈ acc, RankIs x) → Rising acc →
    Rising (l.foldl (fun acc x => insR (rankP x.p) acc) acc) ∧ (∀ x ∈ l.foldl (fun acc x => insR (rankP x.p) acc) acc, RankIs x) ∧ ∀ r, r ∈ l.foldl (fun acc x => insR (rankP x.p) acc) acc ↔ r ∈ acc ∨ ∃ x ∈ l, rankP x.p = r
  | [], acc, h1, h2 => ⟨h2, h1, fun r => by simp⟩
  | x :: l, acc, h1, h2 => by
    obtain ⟨g1, g2, g3⟩ := foldR_spec l (insR (rankP x.p) acc) (fun y hy => by
      rcases (insR_mem _ _ _).1 hy with e | e
      · rw [e]; exact rankP_is _
      · exact h1 y e) (insR_rising (rankP_is _) h1 h2)
    refine ⟨g1, g2, fun r => ?_⟩
    rw [List.foldl_cons, g3, insR_mem]
    simp only [List.mem_cons]
    constructor
    · rintro ((e | e) | ⟨y, hy, e⟩)
      · exact .inr ⟨x, .inl rfl, e.symm⟩
      · exact .inl e
      · exact .inr ⟨y, .inr hy, e⟩
    · rintro (e | ⟨y, hy | hy, e⟩)
      · exact .inl (.inr e)
      · subst hy; exact .inl (.inl e.symm)
      · exact .inr ⟨y, hy, e⟩
theorem allR_rising (l : List Nd) : Rising (allR l) := (foldR_spec l [] (by simp) .nil).1
theorem allR_rank (l : List Nd) : ∀ x ∈ allR l, RankIs x := (foldR_spec l [] (by simp) .nil).2.1
theorem allR_mem {l : List Nd} {r : P6} : r ∈ allR l ↔ ∃ x ∈ l, rankP x.p = r := by
  have := (foldR_spec l [] (by simp) .nil).2.2 r
  simpa [allR] using this
theorem insR_len (r : P6) : ∀ l : List P6, (insR r l).length ≤ l.length + 1
  | [] => by simp [insR]
  | y :: ys => by
    rw [insR]
    split
    · have := insR_len r ys; simp only [List.length_cons]; omega
    · split <;> simp
theorem allR_len (l : List Nd) : (allR l).length ≤ l.length := by
  unfold allR
  suffices h : ∀ (l : List Nd) (acc : List P6), (l.foldl (fun acc x => insR (rankP x.p) acc) acc).length ≤ acc.length + l.length by
    have := h l []; simpa using this
  intro l
  induction l with
  | nil => intro acc; simp
  | cons x l ih =>
    intro acc
    have h1 := ih (insR (rankP x.p) acc)
    have h2 := insR_len (rankP x.p) acc
    rw [List.foldl_cons, List.length_cons]; omega
/-! ### sets -/
theorem pickS_sub : ∀ (all : List P6) (s : Nat), (pickS all s).Sublist all
  | [], s => .slnil
  | x :: xs, s => by
    rw [pickS]; split
    · exact .cons_cons _ (pickS_sub xs _)
    · exact .cons _ (pickS_sub xs _)
theorem pickS_zero : ∀ all : List P6, pickS all 0 = []
  | [] => rfl
  | x :: xs => by rw [pickS]; simp [pickS_zero xs]
theorem pickS_surj : ∀ {all rs : List P6}, rs.Sublist all → ∃ s, s < 2 ^ all.length ∧ pickS all s = rs
  | _, _, .slnil => ⟨0, by simp, rfl⟩
  | _, _, .cons (l₂ := xs) x h => by
    obtain ⟨s, h1, h2⟩ := pickS_surj h
    refine ⟨2 * s, by rw [List.length_cons, Nat.pow_succ]; omega, ?_⟩
    rw [pickS, if_neg (by omega), show 2 * s / 2 = s by omega, h2]
  | _, _, .cons_cons (l₂ := xs) x h => by
    obtain ⟨s, h1, h2⟩ := pickS_surj h
    refine ⟨2 * s + 1, by rw [List.length_cons, Nat.pow_succ]; omega, ?_⟩
    rw [pickS, if_pos (by omega), show (2 * s + 1) / 2 = s by omega, h2]
theorem pickS_take : ∀ (all : List P6) (s k : Nat), k < all.length → pickS (all.take (k + 1)) s = pickS (all.take k) s ++ (if s / 2 ^ k % 2 = 1 then [all[k]!] else [])
  | [], s, k, h => absurd h (by simp)
  | x :: xs, s, 0, h => by
    simp only [List.take_succ_cons, List.take_zero, pickS, Nat.pow_zero, Nat.div_one, List.nil_append]
    split <;> rfl
  | x :: xs, s, k + 1, h => by
    rw [List.take_succ_cons, List.take_succ_cons, pickS, pickS, pickS_take xs (s / 2) k (by simpa using h), Nat.div_div_eq_div_mul, show 2 * 2 ^ k = 2 ^ (k + 1) by rw [Nat.pow_succ, Nat.mul_comm]]
    simp only [List.getElem!_cons_succ]
    split <;> simp
end Go.Proofs.Ytdhnpjgnnfgklaa

/- Plan (chapter 39), plain: the best plan saves most; the best rows are best bank by bank; what fits. -/
namespace Go.Proofs.Ytdhnpjgnnfgklaa
set_option linter.unusedSimpArgs false
set_option linter.unusedVariables false

theorem zip_mem {l : List Nd} {z : Nd × Nat} : z ∈ l.zipIdx ↔ l[z.2]? = some z.1 := List.mem_zipIdx_iff_getElem?
theorem zip_fst {l : List Nd} {z : Nd × Nat} (h : z ∈ l.zipIdx) : z.1 ∈ l := List.mem_of_getElem? (zip_mem.1 h)
theorem zip_inj {l : List Nd} {x y : Nd × Nat} (hx : x ∈ l.zipIdx) (hy : y ∈ l.zipIdx) (e : x.2 = y.2) : x = y := by
  have h1 := zip_mem.1 hx
  have h2 := zip_mem.1 hy
  rw [e, h2] at h1
  injection h1 with h1
  exact Prod.ext h1.symm e
theorem zip_rising (l : List Nd) : l.zipIdx.Pairwise fun x y => x.2 < y.2 := by
  rw [List.pairwise_iff_getElem]
  intro i j hi hj hij
  simp only [List.getElem_zipIdx]
  omega
def nAhead (l : List Nd) (x : Nd × Nat) : Nat := l.zipIdx.countP (aheadB · x)
def gOn (l : List Nd) (a : Int) (rs : List P6) (x : Nd × Nat) : Bool := decide (x.1.loss ≠ 0) && !inR rs x.1.p && decide ((nAhead l x : Int) < a)
theorem gOn_iff {l : List Nd} {a : Int} {rs : List P6} {x : Nd × Nat} : gOn l a rs x = true ↔ x.1.loss ≠ 0 ∧ inR rs x.1.p = false ∧ (nAhead l x : Int) < a := by
  unfold gOn; simp [and_assoc]
theorem rowsZ_mem {l : List Nd} {a : Int} {rs : List P6} {z : Nd × Nat} : z ∈ rowsZ l a rs ↔ z ∈ l.zipIdx ∧ gOn l a rs z = true := by
  unfold rowsZ; rw [List.mem_filter]; rfl
theorem rowsFor_has {l : List Nd} {a : Int} {rs : List P6} {z : Nd × Nat} (hz : z ∈ l.zipIdx) : (rowsFor l a rs).contains (z.2 : Int) = gOn l a rs z := by
  rw [Bool.eq_iff_iff, List.contains_iff_mem]
  unfold rowsFor
  rw [List.mem_map]
  constructor
  · rintro ⟨y, hy, e⟩
    obtain ⟨h1, h2⟩ := rowsZ_mem.1 hy
    have := zip_inj h1 hz (by omega)
    subst this; exact h2
  · intro h; exact ⟨z, rowsZ_mem.2 ⟨hz, h⟩, rfl⟩
theorem worth_rows (l : List Nd) (a : Int) (rs : List P6) : worthP l (rowsFor l a rs) rs = sumOn (fun z => inR rs z.1.p || gOn l a rs z) lossZ l.zipIdx :=
  sumOn_congr fun z hz => by rw [rowsFor_has hz]
def NonNeg (l : List Nd) : Prop := ∀ x ∈ l, 0 ≤ x.loss
theorem NonNeg.z {l : List Nd} (h : NonNeg l) : ∀ z ∈ l.zipIdx, 0 ≤ lossZ z := fun z hz => h _ (zip_fst hz)
theorem worthP_nonneg {l : List Nd} (h : NonNeg l) (rows : List Int) (rs : List P6) : 0 ≤ worthP l rows rs := sumOn_nonneg h.z
theorem crowd_nil {α : Type} [DecidableEq α] (f : P6 → α) (b : Int) : crowdP f [] b = false := rfl

/-! ### the fold -/
section
variable {all : List P6} {l : List Nd} {a b : Int}
theorem bestN_one (h : NonNeg l) : bestN all l a b 1 = planOf l a [] := by
  show bestStep all l a b ⟨[], [], -1⟩ 0 = _
  unfold bestStep
  rw [pickS_zero, crowd_nil]
  have h1 : betterP (planOf l a []) ⟨[], [], -1⟩ = true := by
    have := worthP_nonneg h (rowsFor l a []) []
    unfold betterP
    rw [Bool.or_eq_true]; left
    show decide ((-1 : Int) < worthP l (rowsFor l a []) []) = true
    rw [decide_eq_true_iff]; omega
  rw [h1]; rfl
theorem betterP_le {p q : PlR} (h : betterP p q = true) : q.saved ≤ p.saved := by
  unfold betterP at h
  rw [Bool.or_eq_true, Bool.and_eq_true, decide_eq_true_iff, decide_eq_true_iff] at h
  rcases h with h | ⟨h, -⟩ <;> omega
theorem not_betterP {p q : PlR} (h : betterP p q = false) : p.saved ≤ q.saved := by
  unfold betterP at h
  rw [Bool.or_eq_false_iff, decide_eq_false_iff_not] at h
  omega
theorem bestN_is (h : NonNeg l) : ∀ n, ∃ s, s < n + 1 ∧ crowdP chanP (pickS all s) b = false ∧ bestN all l a b (n + 1) = planOf l a (pickS all s)
  | 0 => ⟨0, by omega, by rw [pickS_zero]; rfl, by rw [bestN_one h, pickS_zero]⟩
  | n + 1 => by
    obtain ⟨s, h1, h2, h3⟩ := bestN_is h n
    show ∃ s, _ ∧ _ ∧ bestStep all l a b (bestN all l a b (n + 1)) (n + 1) = _
    unfold bestStep
    cases hc : crowdP chanP (pickS all (n + 1)) b with
    | true => exact ⟨s, by omega, h2, by rw [if_pos rfl]; exact h3⟩
    | false =>
      rw [if_neg (by simp)]
      cases hb : betterP (planOf l a (pickS all (n + 1))) (bestN all l a b (n + 1)) with
      | true => exact ⟨n + 1, by omega, hc, by rw [if_pos rfl]⟩
      | false => exact ⟨s, by omega, h2, by rw [if_neg (by simp)]; exact h3⟩
theorem bestStep_le (acc : PlR) (set : Nat) : acc.saved ≤ (bestStep all l a b acc set).saved := by
  unfold bestStep
  split
  · exact Int.le_refl _
  · split
    · rename_i h; exact betterP_le h
    · exact Int.le_refl _
theorem bestN_max : ∀ (n s : Nat), s < n → crowdP chanP (pickS all s) b = false → (planOf l a (pickS all s)).saved ≤ (bestN all l a b n).saved
  | 0, s, h, _ => absurd h (Nat.not_lt_zero _)
  | n + 1, s, h, hc => by
    by_cases e : s = n
    · subst e
      show _ ≤ (bestStep all l a b (bestN all l a b s) s).saved
      unfold bestStep
      rw [hc, if_neg (by simp)]
      cases hb : betterP (planOf l a (pickS all s)) (bestN all l a b s) with
      | true => rw [if_pos rfl]; exact Int.le_refl _
      | false => rw [if_neg (by simp)]; exact not_betterP hb
    · exact Int.le_trans (bestN_max n s (by omega) hc) (bestStep_le _ _)
end
theorem two_pow_succ (n : Nat) : ∃ k, 2 ^ n = k + 1 := ⟨2 ^ n - 1, by have := Nat.two_pow_pos n; omega⟩
theorem bestP_is {l : List Nd} (h : NonNeg l) (a b : Int) : ∃ rs : List P6, rs.Sublist (allR l) ∧ crowdP chanP rs b = false ∧ bestP l a b = planOf l a rs := by
  obtain ⟨k, hk⟩ := two_pow_succ (allR l).length
  obtain ⟨s, h1, h2, h3⟩ := bestN_is (all := allR l) (a := a) (b := b) h k
  exact ⟨_, pickS_sub _ s, h2, by unfold bestP; rw [hk]; exact h3⟩
theorem bestP_max {l : List Nd} {a b : Int} {rs : List P6} (hs : rs.Sublist (allR l)) (hc : crowdP chanP rs b = false) : (planOf l a rs).saved ≤ (bestP l a b).saved := by
  obtain ⟨s, h1, rfl⟩ := pickS_surj hs
  exact bestN_max _ s h1 hc

/-! ### counting -/
theorem aheadB_iff {y x : Nd × Nat} : aheadB y x = true ↔ bankP y.1.p = bankP x.1.p ∧ (x.1.loss < y.1.loss ∨ y.1.loss = x.1.loss ∧ y.2 < x.2) := decide_eq_true_iff
theorem aheadB_irrefl (x : Nd × Nat) : aheadB x x = false := by
  rw [← Bool.not_eq_true, aheadB_iff]; omega
theorem bank_rank {x y : P6} (h : bankP x = bankP y) : rankP x = rankP y := by
  unfold bankP at h; unfold rankP
  simp only [P6.mk.injEq, and_true] at h ⊢
  exact ⟨h.1, h.2.1, h.2.2.1⟩
theorem inR_bank (rs : List P6) {x y : P6} (h : bankP x = bankP y) : inR rs x = inR rs y := by
  unfold inR; rw [bank_rank h]
end Go.Proofs.Ytdhnpjgnnfgklaa

/- Plan (chapter 39), plain: how the program comes to the ranks and to the best rows (sorted, compacted; taken one after the other). -/
namespace Go.Proofs.Ytdhnpjgnnfgklaa
set_option linter.unusedSimpArgs false
set_option linter.unusedVariables false

/-! ### compact -/
def ddP (p : P6) : List P6 → List P6
  | [] => []
  | x :: l => if x = p then ddP p l else x :: ddP x l
def compactP : List P6 → List P6
  | [] => []
  | x :: l => x :: ddP x l
def Weak (l : List P6) : Prop := l.Pairwise fun x y => befP y x = false
theorem ddP_spec : ∀ (l : List P6) (p : P6), (∀ x ∈ p :: l, RankIs x) → Weak (p :: l) → Rising (p :: ddP p l) ∧ ∀ x, x ∈ p :: ddP p l ↔ x ∈ p :: l
  | [], p, _, _ => ⟨by simp [ddP, Rising], fun x => Iff.rfl⟩
  | x :: l, p, hr, h => by
    have h' := List.pairwise_cons.1 h
    have h'' := List.pairwise_cons.1 h'.2
    rw [ddP]
    by_cases e : x = p
    · subst e
      rw [if_pos rfl]
      obtain ⟨g1, g2⟩ := ddP_spec l x (fun y hy => hr y (by simp at hy ⊢; rcases hy with e | e <;> simp [e])) h'.2
      refine ⟨g1, fun y => ?_⟩
      rw [g2 y]; simp
    · rw [if_neg e]
      obtain ⟨g1, g2⟩ := ddP_spec l x (fun y hy => hr y (by simp at hy ⊢; rcases hy with e | e <;> simp [e])) h'.2
      have hpx : befP p x = true := by
        rcases befP_total (hr p (by simp)) (hr x (by simp)) (Ne.symm e) with h1 | h1
        · exact h1
        · have := h'.1 x (by simp); rw [this] at h1; cases h1
      refine ⟨List.pairwise_cons.2 ⟨fun z hz => ?_, g1⟩, fun y => ?_⟩
      · rcases List.mem_cons.1 hz with e2 | e2
        · rw [e2]; exact hpx
        · exact befP_trans hpx ((List.pairwise_cons.1 g1).1 z e2)
      · rw [List.mem_cons, g2 y]; simp
theorem compactP_spec {l : List P6} (hr : ∀ x ∈ l, RankIs x) (h : Weak l) : Rising (compactP l) ∧ ∀ x, x ∈ compactP l ↔ x ∈ l := by
  cases l with
  | nil => exact ⟨.nil, fun x => Iff.rfl⟩
  | cons x l => exact ddP_spec l x hr h
theorem compactP_all {l : List Nd} {ts : List P6} (hp : ts.Perm (l.map fun x => rankP x.p)) (h : Weak ts) : compactP ts = allR l := by
  have hm : ∀ x, x ∈ ts ↔ ∃ y ∈ l, rankP y.p = x := fun x => by rw [hp.mem_iff, List.mem_map]
  obtain ⟨g1, g2⟩ := compactP_spec (fun x hx => by obtain ⟨y, _, e⟩ := (hm x).1 hx; rw [← e]; exact rankP_is _) h
  exact g1.unique (allR_rising l) fun x => by rw [g2, hm, allR_mem]

/-! ### rows, one after the other -/
def befI (l : List Nd) (i j : Int) : Prop := l[j.toNat]!.loss < l[i.toNat]!.loss ∨ l[i.toNat]!.loss = l[j.toNat]!.loss ∧ i < j
def bkI (l : List Nd) (i : Int) : P6 := bankP l[i.toNat]!.p
def candZ (l : List Nd) (rs : List P6) : List (Nd × Nat) := l.zipIdx.filter fun z => decide (0 < z.1.loss) && !inR rs z.1.p
def candI (l : List Nd) (rs : List P6) : List Int := (candZ l rs).map fun z => (z.2 : Int)
def takenP (l : List Nd) (a : Int) (ts : List Int) : Nat → List Int
  | 0 => []
  | k + 1 => if ((ts.take k).countP (fun j => decide (bkI l j = bkI l ts[k]!)) : Int) < a then takenP l a ts k ++ [ts[k]!] else takenP l a ts k
theorem takenP_mem {l : List Nd} {a : Int} {ts : List Int} : ∀ (k : Nat) (i : Int), i ∈ takenP l a ts k ↔ ∃ j, j < k ∧ ts[j]! = i ∧ ((ts.take j).countP (fun j => decide (bkI l j = bkI l i)) : Int) < a
  | 0, i => by simp [takenP]
  | k + 1, i => by
    have ih := takenP_mem (l := l) (a := a) (ts := ts) k i
    rw [takenP]
    have hstep : (∃ j, j < k + 1 ∧ ts[j]! = i ∧ ((ts.take j).countP (fun j => decide (bkI l j = bkI l i)) : Int) < a) ↔ (∃ j, j < k ∧ ts[j]! = i ∧ ((ts.take j).countP (fun j => decide (bkI l j = bkI l i)) : Int) < a) ∨ (ts[k]! = i ∧ ((ts.take k).countP (fun j => decide (bkI l j = bkI l i)) : Int) < a) := by
      constructor
      · rintro ⟨j, h1, h2⟩
        by_cases e : j = k
        · subst e; exact .inr h2
        · exact .inl ⟨j, by omega, h2⟩
      · rintro (⟨j, h1, h2⟩ | h2)
        · exact ⟨j, by omega, h2⟩
        · exact ⟨k, by omega, h2⟩
    rw [hstep, ← ih]
    split
    · rename_i h
      rw [List.mem_append, List.mem_singleton]
      constructor
      · rintro (h1 | h1)
        · exact .inl h1
        · subst h1; exact .inr ⟨rfl, h⟩
      · rintro (h1 | h1)
        · exact .inl h1
        · exact .inr h1.1.symm
    · rename_i h
      constructor
      · exact .inl
      · rintro (h1 | ⟨h1, h2⟩)
        · exact h1
        · rw [← h1] at h2; exact absurd h2 h
theorem takenP_nodup {l : List Nd} {a : Int} {ts : List Int} (hn : ts.Nodup) : ∀ k, k ≤ ts.length → (takenP l a ts k).Nodup
  | 0, _ => List.nodup_nil
  | k + 1, hk => by
    have ih := takenP_nodup (l := l) (a := a) hn k (by omega)
    rw [takenP]
    split
    · rw [List.nodup_append]
      refine ⟨ih, by simp, fun x hx y hy e => ?_⟩
      rw [List.mem_singleton] at hy
      subst hy e
      obtain ⟨j, h1, h2, -⟩ := (takenP_mem k _).1 hx
      rw [getElem!_pos ts j (by omega), getElem!_pos ts k (by omega)] at h2
      have := (List.getElem_inj hn).1 h2
      omega
    · exact ih
theorem getZ {l : List Nd} {z : Nd × Nat} (h : z ∈ l.zipIdx) : l[((z.2 : Int)).toNat]! = z.1 := by
  have := zip_mem.1 h
  rw [Int.toNat_natCast, getElem!_pos l z.2 (List.getElem?_eq_some_iff.1 this).1]
  exact (List.getElem?_eq_some_iff.1 this).2
theorem candI_mem {l : List Nd} {rs : List P6} {i : Int} : i ∈ candI l rs ↔ ∃ z ∈ l.zipIdx, (z.2 : Int) = i ∧ 0 < z.1.loss ∧ inR rs z.1.p = false := by
  unfold candI candZ
  simp only [List.mem_map, List.mem_filter, Bool.and_eq_true, decide_eq_true_iff, Bool.not_eq_true']
  constructor
  · rintro ⟨z, ⟨h1, h2, h3⟩, h4⟩; exact ⟨z, h1, h4, h2, h3⟩
  · rintro ⟨z, h1, h4, h2, h3⟩; exact ⟨z, ⟨h1, h2, h3⟩, h4⟩
theorem candI_rising (l : List Nd) (rs : List P6) : (candI l rs).Pairwise (· < ·) := by
  unfold candI candZ
  rw [List.pairwise_map]
  exact ((zip_rising l).filter _).imp fun {x y} h => by omega
theorem rowsFor_rising (l : List Nd) (a : Int) (rs : List P6) : (rowsFor l a rs).Pairwise (· < ·) := by
  unfold rowsFor rowsZ
  rw [List.pairwise_map]
  exact ((zip_rising l).filter _).imp fun {x y} h => by omega
theorem taken_count {l : List Nd} {rs : List P6} {ts : List Int} (hp : ts.Perm (candI l rs)) (hs : ts.Pairwise (befI l)) {j : Nat} (hj : j < ts.length) {x : Nd × Nat} (hx : x ∈ l.zipIdx) (hlo : 0 < x.1.loss) (hin : inR rs x.1.p = false) (e : ts[j]! = (x.2 : Int)) :
    (ts.take j).countP (fun j => decide (bkI l j = bkI l (x.2 : Int))) = nAhead l x := by
  have h1 : nAhead l x = ts.countP (fun i => aheadB (l[i.toNat]!, i.toNat) x) := by
    rw [hp.countP_eq]
    unfold candI candZ
    rw [List.countP_map, List.countP_filter]
    unfold nAhead
    refine List.countP_congr fun z hz => ?_
    simp only [Function.comp_apply]
    rw [Bool.and_eq_true, getZ hz, Int.toNat_natCast]
    constructor
    · intro h
      have h' := aheadB_iff.1 h
      exact ⟨h, by rw [Bool.and_eq_true, decide_eq_true_iff, inR_bank rs h'.1, hin]; exact ⟨by omega, rfl⟩⟩
    · exact fun h => h.1
  rw [h1]
  have hsplit : ts = ts.take j ++ ts[j]! :: ts.drop (j + 1) := by
    rw [getElem!_pos ts j hj]; simp
  have hnn : ∀ i ∈ ts, ∃ z ∈ l.zipIdx, (z.2 : Int) = i := fun i hi => by
    obtain ⟨z, h1, h2, -⟩ := candI_mem.1 (hp.mem_iff.1 hi); exact ⟨z, h1, h2⟩
  have hs' := hs
  rw [hsplit, List.pairwise_append] at hs'
  obtain ⟨-, h3, h4⟩ := hs'
  rw [List.pairwise_cons] at h3
  conv => rhs; rw [hsplit]
  rw [List.countP_append, List.countP_cons]
  have hxg := getZ hx
  have e1 : (if aheadB (l[(ts[j]!).toNat]!, (ts[j]!).toNat) x = true then 1 else 0) = 0 := by
    rw [e, hxg, Int.toNat_natCast]
    show (if aheadB x x = true then 1 else 0) = 0
    rw [aheadB_irrefl]; rfl
  have e2 : (ts.drop (j + 1)).countP (fun i => aheadB (l[i.toNat]!, i.toNat) x) = 0 := by
    rw [List.countP_eq_zero]
    intro i hi ha
    have h5 := h3.1 i hi
    rw [e] at h5
    have ha' := aheadB_iff.1 ha
    obtain ⟨z, hz, hzi⟩ := hnn i (List.mem_of_mem_drop hi)
    subst hzi
    unfold befI at h5
    rw [hxg, getZ hz] at h5
    have gz : l[z.2]! = z.1 := by have := getZ hz; rwa [Int.toNat_natCast] at this
    simp only [gz, Int.toNat_natCast] at ha'
    omega
  rw [e1, e2]
  refine List.countP_congr fun i hi => ?_
  have h5 := h4 i hi ts[j]! (by simp)
  rw [e] at h5
  obtain ⟨z, hz, hzi⟩ := hnn i (List.mem_of_mem_take hi)
  subst hzi
  unfold befI at h5
  unfold bkI
  rw [hxg, getZ hz] at *
  rw [decide_eq_true_iff, aheadB_iff, Int.toNat_natCast]
  dsimp only
  constructor
  · intro h; exact ⟨h, by omega⟩
  · exact fun h => h.1
/-- The rows that the program takes, sorted. -/
theorem taken_rows {l : List Nd} (hl : NonNeg l) {a : Int} {rs : List P6} {ts out : List Int} (hp : ts.Perm (candI l rs)) (hs : ts.Pairwise (befI l)) (ho : out.Perm (takenP l a ts ts.length)) (hso : out.Pairwise fun x y => x ≤ y) : out = rowsFor l a rs := by
  have hn : ts.Nodup := hp.nodup_iff.2 ((candI_rising l rs).imp fun {x y} h e => by omega)
  have hno : out.Nodup := ho.nodup_iff.2 (takenP_nodup hn _ (Nat.le_refl _))
  have hso' : out.Pairwise (· < ·) := by
    rw [List.pairwise_iff_getElem] at hso ⊢
    intro i j hi hj hij
    have h1 := hso i j hi hj hij
    have h2 : out[i] ≠ out[j] := fun e => by
      have := (List.getElem_inj hno).1 e
      omega
    omega
  refine sorted_unique (R := fun x y : Int => x < y) (fun x h => by omega) (fun x y z h1 h2 => by omega) hso' (rowsFor_rising l a rs) fun i => ?_
  rw [ho.mem_iff, takenP_mem]
  unfold rowsFor
  rw [List.mem_map]
  constructor
  · rintro ⟨j, hj, e, hc⟩
    have him : i ∈ ts := by rw [← e, getElem!_pos ts j hj]; exact List.getElem_mem _
    obtain ⟨z, hz, hzi, h1, h2⟩ := candI_mem.1 (hp.mem_iff.1 him)
    subst hzi
    rw [taken_count hp hs hj hz h1 h2 e] at hc
    exact ⟨z, rowsZ_mem.2 ⟨hz, gOn_iff.2 ⟨by omega, h2, hc⟩⟩, rfl⟩
  · rintro ⟨z, hz, rfl⟩
    obtain ⟨h1, h2⟩ := rowsZ_mem.1 hz
    obtain ⟨h3, h4, h5⟩ := gOn_iff.1 h2
    have h0 : 0 < z.1.loss := by have := hl.z z h1; unfold lossZ at this; omega
    have him : (z.2 : Int) ∈ ts := hp.mem_iff.2 (candI_mem.2 ⟨z, h1, rfl, h0, h4⟩)
    obtain ⟨j, hj, e⟩ := List.getElem_of_mem him
    have e' : ts[j]! = (z.2 : Int) := by rw [getElem!_pos ts j hj]; exact e
    exact ⟨j, hj, e', by rw [taken_count hp hs hj h1 h0 h4 e']; exact h5⟩
end Go.Proofs.Ytdhnpjgnnfgklaa

/- Plan (chapter 39), plain: what fits saves no more; more spares; losses twice as great; bank by bank. -/
namespace Go.Proofs.Ytdhnpjgnnfgklaa
set_option linter.unusedSimpArgs false
set_option linter.unusedVariables false

/-! ### what fits -/
def fitRows (l : List Nd) (a : Int) (ks : List Int) (rs : List P6) : Prop :=
  ∀ i, i < ks.length → 0 ≤ ks[i]! ∧ ks[i]! < l.length ∧ (0 < i → ks[i - 1]! < ks[i]!) ∧ inR rs l[(ks[i]!).toNat]!.p = false ∧ ((ks.take (i + 1)).countP (fun j => decide (bkI l j = bkI l ks[i]!)) : Int) ≤ a
def fitRanks (V : P6 → Prop) (rs : List P6) : Prop := ∀ i, i < rs.length → V rs[i]! ∧ rankP rs[i]! = rs[i]! ∧ (0 < i → befP rs[i - 1]! rs[i]! = true)
theorem chain_pairwise {α : Type} [Inhabited α] {R : α → α → Prop} (ht : ∀ x y z, R x y → R y z → R x z) : ∀ {l : List α}, (∀ i, i < l.length → 0 < i → R l[i - 1]! l[i]!) → l.Pairwise R
  | [], _ => .nil
  | [x], _ => List.pairwise_singleton _ _
  | x :: y :: l, h => by
    have ih : (y :: l).Pairwise R := chain_pairwise ht fun i hi h0 => by
      have := h (i + 1) (by simp at hi ⊢; omega) (by omega)
      cases i with
      | zero => omega
      | succ i => simpa using this
    refine List.pairwise_cons.2 ⟨fun z hz => ?_, ih⟩
    have h1 : R x y := by have := h 1 (by simp) (by omega); simpa using this
    rcases List.mem_cons.1 hz with e | e
    · rw [e]; exact h1
    · exact ht _ _ _ h1 ((List.pairwise_cons.1 ih).1 z e)
theorem fitRanks.rising {V : P6 → Prop} {rs : List P6} (h : fitRanks V rs) : Rising rs := chain_pairwise (R := fun x y => befP x y = true) (fun _ _ _ => befP_trans) fun i hi h0 => (h i hi).2.2 h0
theorem fitRows.rising {l : List Nd} {a : Int} {ks : List Int} {rs : List P6} (h : fitRows l a ks rs) : ks.Pairwise (· < ·) := chain_pairwise (fun _ _ _ h1 h2 => by omega) fun i hi h0 => (h i hi).2.2.1 h0
theorem inR_iff {rs : List P6} {p : P6} : inR rs p = true ↔ ∃ r ∈ rs, rankP r = rankP p := by
  unfold inR; simp [List.any_eq_true]
/-! ### more spares -/
theorem more_rows {l : List Nd} (hl : NonNeg l) (a b : Int) : (bestP l a b).saved ≤ (bestP l (a + 1) b).saved := by
  obtain ⟨rs, h1, h2, h3⟩ := bestP_is hl a b
  rw [h3]
  refine Int.le_trans ?_ (bestP_max (a := a + 1) h1 h2)
  show worthP _ _ _ ≤ worthP _ _ _
  rw [worth_rows, worth_rows]
  refine sumOn_le fun z hz => ?_
  have h0 := hl.z z hz
  have : gOn l a rs z = true → gOn l (a + 1) rs z = true := fun h => by
    rw [gOn_iff] at h ⊢; exact ⟨h.1, h.2.1, by omega⟩
  cases h4 : inR rs z.1.p
  · cases h5 : gOn l a rs z
    · simp; split <;> omega
    · simp [this h5]
  · simp
theorem more_ranks {l : List Nd} (hl : NonNeg l) (a b : Int) : (bestP l a b).saved ≤ (bestP l a (b + 1)).saved := by
  obtain ⟨rs, h1, h2, h3⟩ := bestP_is hl a b
  rw [h3]
  refine bestP_max h1 ?_
  unfold crowdP at h2 ⊢
  rw [List.any_eq_false] at h2 ⊢
  intro r hr
  have := h2 r hr
  simp only [decide_eq_true_iff, Int.not_lt] at this ⊢
  omega
def lossAll (l : List Nd) : Int := sumOn (fun _ => true) Nd.loss l
theorem sum_zip {l : List Nd} (q : Nd → Bool) (g : Nd → Int) (i : Nat) : sumOn (fun z => q z.1) (fun z : Nd × Nat => g z.1) (l.zipIdx i) = sumOn q g l := by
  induction l generalizing i with
  | nil => rfl
  | cons x l ih => rw [List.zipIdx_cons, sumOn, sumOn, ih]
theorem worth_all {l : List Nd} {rows : List Int} {rs : List P6} (h : ∀ z ∈ l.zipIdx, z.1.loss = 0 ∨ inR rs z.1.p = true ∨ rows.contains (z.2 : Int) = true) : worthP l rows rs = lossAll l := by
  unfold lossAll
  rw [← sum_zip (fun _ => true) Nd.loss 0]
  refine sumOn_congr fun z hz => ?_
  rcases h z hz with e | e | e
  · unfold lossZ; rw [e]; simp
  · rw [e]; simp [lossZ]
  · rw [e]; simp [lossZ]
theorem worth_le {l : List Nd} (hl : NonNeg l) (rows : List Int) (rs : List P6) : worthP l rows rs ≤ lossAll l := by
  unfold lossAll
  rw [← sum_zip (fun _ => true) Nd.loss 0]
  refine sumOn_le fun z hz => ?_
  have := hl.z z hz
  simp only [if_true]
  unfold lossZ at *
  split <;> omega
theorem no_ranks {l : List Nd} (hl : NonNeg l) (a : Int) : bestP l a 0 = planOf l a [] := by
  obtain ⟨rs, h1, h2, h3⟩ := bestP_is hl a 0
  have : rs = [] := by
    cases rs with
    | nil => rfl
    | cons r rs =>
      unfold crowdP at h2
      rw [List.any_eq_false] at h2
      have := h2 r (by simp)
      simp only [decide_eq_true_iff, Int.not_lt, List.countP_cons] at this
      simp at this; omega
  rw [h3, this]
theorem nAhead_le (l : List Nd) (x : Nd × Nat) : nAhead l x ≤ l.length := by
  have := List.countP_le_length (p := (aheadB · x)) (l := l.zipIdx)
  simpa [nAhead] using this
theorem enough_rows {l : List Nd} (hl : NonNeg l) {a : Int} (ha : (l.length : Int) < a) : (bestP l a 0).saved = lossAll l := by
  rw [no_ranks hl]
  refine worth_all fun z hz => ?_
  by_cases e : z.1.loss = 0
  · exact .inl e
  · refine .inr (.inr ?_)
    rw [rowsFor_has hz, gOn_iff]
    have := nAhead_le l z
    exact ⟨e, rfl, by omega⟩
theorem no_rows {l : List Nd} (hl : NonNeg l) (b : Int) : (bestP l 0 b).rows = [] := by
  obtain ⟨rs, h1, h2, h3⟩ := bestP_is hl 0 b
  rw [h3]
  show (rowsZ l 0 rs).map _ = []
  rw [List.map_eq_nil_iff]
  unfold rowsZ
  rw [List.filter_eq_nil_iff]
  intro z hz h
  rw [Bool.and_eq_true, decide_eq_true_iff] at h
  omega
theorem enough_ranks {l : List Nd} (hl : NonNeg l) {a b : Int} (hb : (l.length : Int) ≤ b) : (bestP l a b).saved = lossAll l := by
  refine Int.le_antisymm ?_ ?_
  · obtain ⟨rs, h1, h2, h3⟩ := bestP_is hl a b
    rw [h3]; exact worth_le hl _ _
  · have hc : crowdP chanP (allR l) b = false := by
      unfold crowdP
      rw [List.any_eq_false]
      intro r hr
      have h1 := List.countP_le_length (p := fun q => decide (chanP q = chanP r)) (l := allR l)
      have h2 := allR_len l
      simp only [decide_eq_true_iff, Int.not_lt]; omega
    have := bestP_max (l := l) (a := a) (List.Sublist.refl _) hc
    refine Int.le_trans (Int.le_of_eq (Eq.symm ?_)) this
    exact worth_all fun z hz => .inr (.inl (inR_iff.2 ⟨rankP z.1.p, allR_mem.2 ⟨z.1, zip_fst hz, rfl⟩, rfl⟩))

/-! ### losses twice as great -/
/-! ### bank by bank -/
def cntZ (x : Nd) (pre rest : List Nd) : Nat := pre.countP (fun y => decide (bankP y.p = bankP x.p ∧ x.loss ≤ y.loss)) + rest.countP (fun y => decide (bankP y.p = bankP x.p ∧ x.loss < y.loss))
def gainQ (q : Nd → Bool) (a : Int) : List Nd → List Nd → Int
  | _, [] => 0
  | pre, x :: rest => (if q x && (decide (x.loss ≠ 0) && decide ((cntZ x pre rest : Int) < a)) then x.loss else 0) + gainQ q a (pre ++ [x]) rest
theorem ahead_pre (x : Nd) (k : Nat) : ∀ (pre : List Nd) (i : Nat), i + pre.length ≤ k → (pre.zipIdx i).countP (aheadB · (x, k)) = pre.countP (fun y => decide (bankP y.p = bankP x.p ∧ x.loss ≤ y.loss))
  | [], i, _ => rfl
  | y :: pre, i, h => by
    rw [List.zipIdx_cons, List.countP_cons, List.countP_cons, ahead_pre x k pre (i + 1) (by simp at h; omega)]
    have : aheadB (y, i) (x, k) = decide (bankP y.p = bankP x.p ∧ x.loss ≤ y.loss) := by
      rw [Bool.eq_iff_iff, aheadB_iff, decide_eq_true_iff]
      simp only [List.length_cons] at h
      simp only
      constructor
      · intro ⟨h1, h2⟩; exact ⟨h1, by omega⟩
      · intro ⟨h1, h2⟩; exact ⟨h1, by omega⟩
    rw [this]
theorem ahead_rest (x : Nd) (k : Nat) : ∀ (rest : List Nd) (i : Nat), k < i → (rest.zipIdx i).countP (aheadB · (x, k)) = rest.countP (fun y => decide (bankP y.p = bankP x.p ∧ x.loss < y.loss))
  | [], i, _ => rfl
  | y :: rest, i, h => by
    rw [List.zipIdx_cons, List.countP_cons, List.countP_cons, ahead_rest x k rest (i + 1) (by omega)]
    have : aheadB (y, i) (x, k) = decide (bankP y.p = bankP x.p ∧ x.loss < y.loss) := by
      rw [Bool.eq_iff_iff, aheadB_iff, decide_eq_true_iff]
      simp only
      constructor
      · intro ⟨h1, h2⟩; exact ⟨h1, by omega⟩
      · intro ⟨h1, h2⟩; exact ⟨h1, by omega⟩
    rw [this]
theorem gainQ_sum (q : Nd → Bool) (a : Int) (l : List Nd) : ∀ (rest pre : List Nd), l = pre ++ rest → sumOn (fun z => q z.1 && gOn l a [] z) lossZ (rest.zipIdx pre.length) = gainQ q a pre rest
  | [], pre, _ => rfl
  | x :: rest, pre, h => by
    have ih := gainQ_sum q a l rest (pre ++ [x]) (by simp [h])
    rw [List.length_append, List.length_singleton] at ih
    rw [List.zipIdx_cons, sumOn, gainQ, ih]
    have hc : nAhead l (x, pre.length) = cntZ x pre rest := by
      unfold nAhead cntZ
      rw [h, List.zipIdx_append, List.countP_append, List.zipIdx_cons, List.countP_cons, ahead_pre x _ pre 0 (by omega), Nat.zero_add, aheadB_irrefl, ahead_rest x _ rest _ (by omega)]
      simp
    have : gOn l a [] (x, pre.length) = (decide (x.loss ≠ 0) && decide ((cntZ x pre rest : Int) < a)) := by
      unfold gOn
      rw [hc]
      simp [inR]
    rw [this]; rfl
theorem gainQ_filter (B : P6) (a : Int) : ∀ (rest pre : List Nd), gainQ (fun x => decide (bankP x.p = B)) a pre rest = gainQ (fun _ => true) a (pre.filter fun x => decide (bankP x.p = B)) (rest.filter fun x => decide (bankP x.p = B))
  | [], pre => rfl
  | x :: rest, pre => by
    have ih := gainQ_filter B a rest (pre ++ [x])
    rw [List.filter_append, List.filter_cons, List.filter_nil] at ih
    rw [gainQ, ih, List.filter_cons]
    by_cases e : bankP x.p = B
    · simp only [e, decide_true, if_true, Bool.true_and, gainQ]
      have : cntZ x (pre.filter fun x => decide (bankP x.p = B)) (rest.filter fun x => decide (bankP x.p = B)) = cntZ x pre rest := by
        unfold cntZ
        rw [List.countP_filter, List.countP_filter]
        congr 1
        · refine List.countP_congr fun y _ => ?_
          simp only [Bool.and_eq_true, decide_eq_true_iff]
          exact ⟨fun h => h.1, fun h => ⟨h, h.1.trans e⟩⟩
        · refine List.countP_congr fun y _ => ?_
          simp only [Bool.and_eq_true, decide_eq_true_iff]
          exact ⟨fun h => h.1, fun h => ⟨h, h.1.trans e⟩⟩
      rw [this]
    · simp [e]
theorem saved_gain {l : List Nd} (hl : NonNeg l) (a : Int) : (bestP l a 0).saved = gainQ (fun _ => true) a [] l := by
  rw [no_ranks hl]
  show worthP l (rowsFor l a []) [] = _
  rw [worth_rows, ← gainQ_sum _ a l l [] rfl]
  exact sumOn_congr fun z _ => by simp [inR]
/-- What the banks that are done save. -/
def doneG (a : Int) (l : List Nd) (bs : List P6) : Int := sumOn (fun z => bs.contains (bankP z.1.p) && gOn l a [] z) lossZ l.zipIdx
theorem doneG_nil (a : Int) (l : List Nd) : doneG a l [] = 0 := by
  unfold doneG
  rw [sumOn_congr (on' := fun _ => false) (f' := lossZ) fun z _ => by simp]
  generalize l.zipIdx = Z
  induction Z with
  | nil => rfl
  | cons z Z ih => rw [sumOn, ih]; simp
theorem doneG_cons {l : List Nd} (hl : NonNeg l) (a : Int) {bs : List P6} {B : P6} (hB : B ∉ bs) : doneG a l (bs ++ [B]) = doneG a l bs + (bestP (l.filter fun x => decide (bankP x.p = B)) a 0).saved := by
  rw [saved_gain (fun x hx => hl x ((List.mem_filter.1 hx).1))]
  have h1 := gainQ_filter B a l []
  rw [List.filter_nil] at h1
  rw [← h1, ← gainQ_sum _ a l l [] rfl]
  unfold doneG
  show _ = _ + sumOn _ _ l.zipIdx
  generalize l.zipIdx = Z
  induction Z with
  | nil => rfl
  | cons z Z ih =>
    rw [sumOn, sumOn, sumOn, ih]
    by_cases e : bankP z.1.p = B
    · have h1 : (bs ++ [B]).contains (bankP z.1.p) = true := by rw [List.contains_iff_mem, e]; simp
      have h2 : bs.contains (bankP z.1.p) = false := by rw [← Bool.not_eq_true, List.contains_iff_mem, e]; exact hB
      rw [h1, h2, decide_eq_true e]
      simp only [Bool.true_and, Bool.false_and, Bool.false_eq_true, if_false]
      omega
    · have h1 : (bs ++ [B]).contains (bankP z.1.p) = bs.contains (bankP z.1.p) := by rw [Bool.eq_iff_iff, List.contains_iff_mem, List.contains_iff_mem]; simp [e]
      rw [h1, decide_eq_false e]
      simp only [Bool.false_and, Bool.false_eq_true, if_false]
      omega
theorem doneG_all {l : List Nd} (hl : NonNeg l) (a : Int) {bs : List P6} (h : ∀ x ∈ l, bankP x.p ∈ bs) : doneG a l bs = (bestP l a 0).saved := by
  rw [saved_gain hl, ← gainQ_sum _ a l l [] rfl]
  exact sumOn_congr fun z hz => by
    have : bs.contains (bankP z.1.p) = true := by rw [List.contains_iff_mem]; exact h _ (zip_fst hz)
    rw [this]
end Go.Proofs.Ytdhnpjgnnfgklaa
