/- Strikes: what the table of masks holds, and that fewer strikes and earlier times never damage more. -/
import Derived.Test.YtaeockopliplfaaDoorInj2
import Derived.Lib.BitFns
namespace Go.Proofs.YtaeockopliplfaaDoor
set_option linter.unusedSimpArgs false
set_option linter.unusedVariables false

theorem getI_put (x y v : Int) : ∀ M, getI x (putI y v M) = if x = y then some v else getI x M
  | [] => by simp [putI, getI]
  | p :: M => by
    unfold putI
    by_cases h : y = p.1
    · rw [if_pos h]
      subst h
      by_cases hx : x = p.1
      · simp [getI, hx]
      · simp [getI, hx]
    · rw [if_neg h]
      simp only [getI]
      by_cases hx : x = p.1
      · have : x ≠ y := fun e => h (e ▸ hx)
        simp [hx, this]
        intro e; exact absurd e.symm h
      · simp only [hx, if_false]
        exact getI_put x y v M
theorem putI_keys (y v : Int) : ∀ M : List (Int × Int), (putI y v M).map (·.1) = if y ∈ M.map (·.1) then M.map (·.1) else M.map (·.1) ++ [y]
  | [] => by simp [putI]
  | p :: M => by
    unfold putI
    by_cases h : y = p.1
    · rw [if_pos h]
      simp [h]
    · rw [if_neg h]
      have ih := putI_keys y v M
      simp only [List.map_cons, ih, List.mem_cons, h, false_or]
      by_cases hm : y ∈ M.map (·.1)
      · simp [hm]
      · simp [hm]
theorem getI_key (x : Int) : ∀ M : List (Int × Int), (getI x M).isSome = true ↔ x ∈ M.map (·.1)
  | [] => by simp [getI]
  | p :: M => by
    simp only [getI, List.map_cons, List.mem_cons]
    by_cases h : x = p.1
    · simp [h]
    · simp only [h, if_false, false_or]
      exact getI_key x M
theorem getI_mem {x v : Int} : ∀ {M : List (Int × Int)}, (M.map (·.1)).Nodup → (x, v) ∈ M → getI x M = some v
  | [], _, h => absurd h (by simp)
  | p :: M, hn, h => by
    simp only [List.map_cons, List.nodup_cons] at hn
    rcases List.mem_cons.1 h with h | h
    · subst h; simp [getI]
    · have : x ≠ p.1 := fun e => hn.1 (e ▸ List.mem_map.2 ⟨_, h, rfl⟩)
      simp only [getI, this, if_false]
      exact getI_mem hn.2 h
theorem mkI_nodup_aux (q : P6) (t : Int) : ∀ (xs : List St) (M : List (Int × Int)), (M.map (·.1)).Nodup → ((xs.foldl (addI q t) M).map (·.1)).Nodup
  | [], M, h => h
  | x :: xs, M, h => by
    refine mkI_nodup_aux q t xs (addI q t M x) ?_
    unfold addI
    split
    · rw [putI_keys]
      split
      · exact h
      · rename_i hm
        rw [List.nodup_append]
        refine ⟨h, by simp, ?_⟩
        intro a ha b hb e
        simp at hb
        subst hb; subst e
        exact hm ha
    · exact h
theorem mkI_nodup (xs : List St) (q : P6) (t : Int) : ((mkI xs q t).map (·.1)).Nodup := mkI_nodup_aux q t xs [] (by simp)

/-- One more strike, for a chip. -/
def stepC (c : Int) (q : P6) (t : Int) (o : Option Int) (x : St) : Option Int := if hitP x q t = true ∧ c = x.ch then some (bits BinOp.or .u8 (o.getD 0) x.ms) else o
theorem getI_mk_aux (c : Int) (q : P6) (t : Int) : ∀ (xs : List St) (M : List (Int × Int)), getI c (xs.foldl (addI q t) M) = xs.foldl (stepC c q t) (getI c M)
  | [], M => rfl
  | x :: xs, M => by
    show getI c (xs.foldl (addI q t) (addI q t M x)) = xs.foldl (stepC c q t) (stepC c q t (getI c M) x)
    rw [getI_mk_aux c q t xs]
    congr 1
    unfold addI stepC
    by_cases hh : hitP x q t = true
    · rw [if_pos hh, getI_put]
      by_cases hc : c = x.ch
      · simp [hh, hc]
      · simp [hc]
    · simp [hh]
theorem getI_mk (c : Int) (xs : List St) (q : P6) (t : Int) : getI c (mkI xs q t) = xs.foldl (stepC c q t) none := getI_mk_aux c q t xs []
theorem stepC_some (c : Int) (q : P6) (t : Int) : ∀ (xs : List St) (o : Option Int), (xs.foldl (stepC c q t) o).isSome = true ↔ (o.isSome = true ∨ ∃ x ∈ xs, hitP x q t = true ∧ c = x.ch)
  | [], o => by simp
  | x :: xs, o => by
    show (xs.foldl (stepC c q t) (stepC c q t o x)).isSome = true ↔ _
    rw [stepC_some c q t xs]
    unfold stepC
    by_cases h : hitP x q t = true ∧ c = x.ch
    · simp [h]
    · rw [if_neg h]
      constructor
      · rintro (h1 | ⟨y, h1, h2⟩)
        · exact .inl h1
        · exact .inr ⟨y, by simp [h1], h2⟩
      · rintro (h1 | ⟨y, h1, h2⟩)
        · exact .inl h1
        · rcases List.mem_cons.1 h1 with h1 | h1
          · subst h1; exact absurd h2 h
          · exact .inr ⟨y, h1, h2⟩
theorem mkI_some (c : Int) (xs : List St) (q : P6) (t : Int) : (getI c (mkI xs q t)).isSome = true ↔ ∃ x ∈ xs, hitP x q t = true ∧ c = x.ch := by
  rw [getI_mk, stepC_some]; simp
theorem hitP_later {x : St} {q : P6} {t t' : Int} (h : hitP x q t = true) (ht : t ≤ t') : hitP x q t' = true := by
  unfold hitP at h ⊢
  simp only [Bool.and_eq_true, decide_eq_true_eq] at h ⊢
  exact ⟨by omega, h.2⟩
theorem mem_chL {M : List (Int × Int)} {n k : Nat} : k ∈ chL M n ↔ k < n ∧ (getI k M).isSome = true := by
  unfold chL; simp
/-- Fewer strikes, an earlier time: no more chips. -/
theorem chL_mono {xs ys : List St} {q : P6} {t t' : Int} (h : ∀ x ∈ ys, x ∈ xs) (ht : t ≤ t') {k : Nat} (hk : k ∈ chL (mkI ys q t) 40) : k ∈ chL (mkI xs q t') 40 := by
  rw [mem_chL, mkI_some] at hk ⊢
  obtain ⟨h1, x, h2, h3, h4⟩ := hk
  exact ⟨h1, x, h x h2, hitP_later h3 ht, h4⟩

/-! ### The bits -/
theorem popAux_or (b : Nat) : ∀ (f a : Nat) (b : Nat), Lib.popAux f a ≤ Lib.popAux f (a ||| b)
  | 0, _, _ => Nat.le_refl _
  | f + 1, a, b => by
    unfold Lib.popAux
    have h1 := popAux_or b f (a / 2) (b / 2)
    rw [Nat.or_div_two]
    have h2 : a % 2 ≤ (a ||| b) % 2 := by
      have := Nat.or_mod_two_pow (a := a) (b := b) (n := 1)
      simp only [Nat.pow_one] at this
      rw [this]
      exact Nat.left_le_or
    omega
/-- A number is a byte. -/
def Byte (a : Int) : Prop := 0 ≤ a ∧ a < 256
def SubB (a b : Int) : Prop := ∃ x y : Nat, x < 256 ∧ y < 256 ∧ a = x ∧ b = y ∧ x ||| y = y
theorem orB_is (x m : Int) (hx : Byte x) : bits BinOp.or .u8 x m = ((x.toNat ||| (BitVec.ofInt 8 m).toNat : Nat) : Int) ∧ x.toNat ||| (BitVec.ofInt 8 m).toNat < 256 := by
  have h1 : (BitVec.ofInt 8 x).toNat = x.toNat := by
    rw [BitVec.toNat_ofInt]
    have := hx.1; have := hx.2
    congr 1
    omega
  have h3 : (BitVec.ofInt 8 m).toNat < 2 ^ 8 := (BitVec.ofInt 8 m).isLt
  have h4 : x.toNat < 2 ^ 8 := by have := hx.1; have := hx.2; omega
  have h2 : x.toNat ||| (BitVec.ofInt 8 m).toNat < 2 ^ 8 := Nat.or_lt_two_pow h4 h3
  refine ⟨?_, h2⟩
  unfold bits
  show IntKind.u8.wrap ((((BitVec.ofInt 8 x ||| BitVec.ofInt 8 m).toNat : Nat)) : Int) = _
  rw [BitVec.toNat_or, h1]
  generalize x.toNat ||| (BitVec.ofInt 8 m).toNat = n at h2
  exact IntWalk.u8_in _ ⟨by omega, by omega⟩
theorem SubB.pop {a b : Int} (h : SubB a b) : Lib.onesCount a.toNat ≤ Lib.onesCount b.toNat := by
  obtain ⟨x, y, hx, hy, rfl, rfl, e⟩ := h
  unfold Lib.onesCount
  have := popAux_or 0 64 x y
  rw [e] at this
  simpa using this
theorem SubB.or {a b : Int} (h : SubB a b) (m : Int) : SubB (bits BinOp.or .u8 a m) (bits BinOp.or .u8 b m) := by
  obtain ⟨x, y, hx, hy, rfl, rfl, e⟩ := h
  have h1 := orB_is x m ⟨by omega, by omega⟩
  have h2 := orB_is y m ⟨by omega, by omega⟩
  refine ⟨_, _, h1.2, h2.2, h1.1, h2.1, ?_⟩
  simp only [Int.toNat_natCast]
  generalize (BitVec.ofInt 8 m).toNat = z
  apply Nat.eq_of_testBit_eq
  intro i
  have e' := congrArg (fun n => n.testBit i) e
  simp only [Nat.testBit_or] at e' ⊢
  revert e'
  cases x.testBit i <;> cases y.testBit i <;> cases z.testBit i <;> simp
theorem SubB.orR {a b : Int} (h : SubB a b) (m : Int) : SubB a (bits BinOp.or .u8 b m) := by
  obtain ⟨x, y, hx, hy, rfl, rfl, e⟩ := h
  have h2 := orB_is y m ⟨by omega, by omega⟩
  refine ⟨_, _, hx, h2.2, rfl, h2.1, ?_⟩
  simp only [Int.toNat_natCast]
  generalize (BitVec.ofInt 8 m).toNat = z
  rw [← Nat.or_assoc, e]
def SubO (o o' : Option Int) : Prop := (o.isSome = true → o'.isSome = true) ∧ SubB (o.getD 0) (o'.getD 0)
theorem stepC_sub (c : Int) (q : P6) (t : Int) {ys xs : List St} (h : ys.Sublist xs) : ∀ {o o' : Option Int}, SubO o o' → SubO (ys.foldl (stepC c q t) o) (xs.foldl (stepC c q t) o') := by
  induction h with
  | slnil => intro o o' h; exact h
  | cons x _ ih =>
    intro o o' h
    refine ih ?_
    unfold stepC
    split
    · exact ⟨fun _ => rfl, h.2.orR _⟩
    · exact h
  | cons_cons x _ ih =>
    intro o o' h
    refine ih ?_
    unfold stepC
    split
    · exact ⟨fun _ => rfl, h.2.or _⟩
    · exact h
theorem mkI_sub {ys xs : List St} (h : ys.Sublist xs) (c : Int) (q : P6) (t : Int) : SubO (getI c (mkI ys q t)) (getI c (mkI xs q t)) := by
  rw [getI_mk, getI_mk]
  exact stepC_sub c q t h ⟨fun h => h, 0, 0, by decide, by decide, rfl, rfl, rfl⟩
theorem mkI_len {ys xs : List St} (h : ys.Sublist xs) (q : P6) (t : Int) : (mkI ys q t).length ≤ (mkI xs q t).length := by
  have := List.Nodup.length_le_of_subset (mkI_nodup ys q t) (l₂ := (mkI xs q t).map (·.1)) (fun k hk => (getI_key k _).1 ((mkI_sub h k q t).1 ((getI_key k _).2 hk)))
  simpa using this

/-- No more damage in a word than its code corrects. -/
def okM (kind fix : Int) (M : List (Int × Int)) : Bool :=
  !(decide (kind = 2 ∧ fix < M.length) || decide (kind = 1 ∧ 1 < (M.length : Int))) && M.all fun p => !decide (kind = 1 ∧ 1 < (Lib.onesCount p.2.toNat : Int))
theorem okM_sub {ys xs : List St} (h : ys.Sublist xs) (q : P6) (t kind fix : Int) (hx : okM kind fix (mkI xs q t) = true) : okM kind fix (mkI ys q t) = true := by
  have hl := mkI_len h q t
  unfold okM at hx ⊢
  simp only [Bool.and_eq_true, Bool.not_eq_true', Bool.or_eq_false_iff, decide_eq_false_iff_not, List.all_eq_true] at hx ⊢
  refine ⟨⟨fun e => hx.1.1 ⟨e.1, by omega⟩, fun e => hx.1.2 ⟨e.1, by omega⟩⟩, ?_⟩
  rintro ⟨c, v⟩ hp ⟨e1, e2⟩
  have hs := mkI_sub h c q t
  rw [getI_mem (mkI_nodup ys q t) hp] at hs
  obtain ⟨u, hu⟩ := Option.isSome_iff_exists.1 (hs.1 rfl)
  rw [hu] at hs
  have hm : (c, u) ∈ mkI xs q t := by
    have hk := (getI_key c (mkI xs q t)).1 (by rw [hu]; rfl)
    obtain ⟨p, hp1, hp2⟩ := List.mem_map.1 hk
    obtain ⟨c', u'⟩ := p
    dsimp only at hp2
    subst hp2
    have := getI_mem (mkI_nodup xs q t) hp1
    rw [hu] at this
    injection this with this
    rw [this]; exact hp1
  have := hs.2.pop
  simp only [Option.getD_some] at this
  exact hx.2 _ hm ⟨e1, by dsimp only at e2 ⊢; omega⟩
end Go.Proofs.YtaeockopliplfaaDoor
