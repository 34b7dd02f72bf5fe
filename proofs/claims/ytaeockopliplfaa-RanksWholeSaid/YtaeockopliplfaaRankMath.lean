/- Plain facts on ranks: a word's index is its rank's number times the rank's size, and what is left. No program in sight. -/
import Derived.Test.YtaeockopliplfaaNum
namespace Go.Proofs.Ytaeockopliplfaa
set_option linter.unusedSimpArgs false
set_option linter.unusedVariables false

/-- The size of a rank. -/
def rsz (a3 a4 a5 : Int) : Int := 2 ^ (a3 + a4 + a5).toNat
/-- The number of a rank among all. -/
def hi3 (a1 a2 p0 p1 p2 : Int) : Int := (p0 * 2 ^ a1.toNat + p1) * 2 ^ a2.toNat + p2
/-- The number of a word in its rank. -/
def lo3 (a4 a5 p3 p4 p5 : Int) : Int := (p3 * 2 ^ a4.toNat + p4) * 2 ^ a5.toNat + p5
theorem low3 {a0 a1 a2 a3 a4 a5 : Int} (h : SV a0 a1 a2 a3 a4 a5) : 0 ≤ a3 + a4 + a5 ∧ a3 + a4 + a5 ≤ 12 := by
  obtain ⟨h0, h1, h2, h3, h4, h5, hs⟩ := h; omega
theorem rsz_in {a0 a1 a2 a3 a4 a5 : Int} (h : SV a0 a1 a2 a3 a4 a5) : 1 ≤ rsz a3 a4 a5 ∧ rsz a3 a4 a5 ≤ 4096 := by
  have := low3 h
  have h1 := pw_12 (a := a3 + a4 + a5) this.2
  have h2 := pw_pos (a3 + a4 + a5)
  unfold rsz; omega
theorem idx_hilo {a0 a1 a2 a3 a4 a5 p0 p1 p2 p3 p4 p5 : Int} (h : SV a0 a1 a2 a3 a4 a5) : idx a1 a2 a3 a4 a5 p0 p1 p2 p3 p4 p5 = hi3 a1 a2 p0 p1 p2 * rsz a3 a4 a5 + lo3 a4 a5 p3 p4 p5 := by
  obtain ⟨h0, h1, h2, h3, h4, h5, hs⟩ := h
  unfold idx hi3 lo3 rsz
  rw [← pw_add (a := a3 + a4) (b := a5) (by omega) h5.1, ← pw_add (a := a3) (b := a4) h3.1 h4.1]
  generalize (2 : Int) ^ a5.toNat = z5
  generalize (2 : Int) ^ a4.toNat = z4
  generalize (2 : Int) ^ a3.toNat = z3
  generalize (p0 * 2 ^ a1.toNat + p1) * 2 ^ a2.toNat + p2 = y
  simp only [Int.add_mul, Int.mul_assoc, Int.add_assoc]
theorem lo3_in {a0 a1 a2 a3 a4 a5 p0 p1 p2 p3 p4 p5 : Int} (h : SV a0 a1 a2 a3 a4 a5) (hp : PV a0 a1 a2 a3 a4 a5 p0 p1 p2 p3 p4 p5) : 0 ≤ lo3 a4 a5 p3 p4 p5 ∧ lo3 a4 a5 p3 p4 p5 < rsz a3 a4 a5 := by
  obtain ⟨h0, h1, h2, h3, h4, h5, hs⟩ := h
  have s1 := step_lt h3.1 h4.1 hp.h3 hp.h4
  have s2 := step_lt (by omega) h5.1 s1 hp.h5
  exact s2
theorem hi3_in {a0 a1 a2 a3 a4 a5 p0 p1 p2 p3 p4 p5 : Int} (h : SV a0 a1 a2 a3 a4 a5) (hp : PV a0 a1 a2 a3 a4 a5 p0 p1 p2 p3 p4 p5) : 0 ≤ hi3 a1 a2 p0 p1 p2 ∧ hi3 a1 a2 p0 p1 p2 < 2 ^ (a0 + a1 + a2).toNat := by
  obtain ⟨h0, h1, h2, h3, h4, h5, hs⟩ := h
  have s1 := step_lt h0.1 h1.1 hp.h0 hp.h1
  exact step_lt (by omega) h2.1 s1 hp.h2
theorem divmod_of {q r R : Int} (hr : 0 ≤ r ∧ r < R) : (q * R + r) / R = q ∧ (q * R + r) % R = r := by
  have hR : 0 < R := by omega
  constructor
  · rw [Int.add_comm, Int.add_mul_ediv_right _ _ (by omega), Int.ediv_eq_zero_of_lt hr.1 hr.2, Int.zero_add]
  · rw [Int.add_comm, Int.add_mul_emod_self_right, Int.emod_eq_of_lt hr.1 hr.2]
theorem idx_div {a0 a1 a2 a3 a4 a5 p0 p1 p2 p3 p4 p5 : Int} (h : SV a0 a1 a2 a3 a4 a5) (hp : PV a0 a1 a2 a3 a4 a5 p0 p1 p2 p3 p4 p5) :
    idx a1 a2 a3 a4 a5 p0 p1 p2 p3 p4 p5 / rsz a3 a4 a5 = hi3 a1 a2 p0 p1 p2 ∧ idx a1 a2 a3 a4 a5 p0 p1 p2 p3 p4 p5 % rsz a3 a4 a5 = lo3 a4 a5 p3 p4 p5 := by
  rw [idx_hilo h]
  exact divmod_of (lo3_in h hp)
theorem hi3_inj {a0 a1 a2 a3 a4 a5 p0 p1 p2 p3 p4 p5 q0 q1 q2 q3 q4 q5 : Int} (hp : PV a0 a1 a2 a3 a4 a5 p0 p1 p2 p3 p4 p5) (hq : PV a0 a1 a2 a3 a4 a5 q0 q1 q2 q3 q4 q5) (e : hi3 a1 a2 p0 p1 p2 = hi3 a1 a2 q0 q1 q2) : p0 = q0 ∧ p1 = q1 ∧ p2 = q2 := by
  unfold hi3 at e
  have e2 := congrArg (· % (2 : Int) ^ a2.toNat) e
  simp only [(step_div hp.h2).2, (step_div hq.h2).2] at e2
  have e1 := congrArg (· / (2 : Int) ^ a2.toNat) e
  simp only [(step_div hp.h2).1, (step_div hq.h2).1] at e1
  have e3 := congrArg (· % (2 : Int) ^ a1.toNat) e1
  simp only [(step_div hp.h1).2, (step_div hq.h1).2] at e3
  have e4 := congrArg (· / (2 : Int) ^ a1.toNat) e1
  simp only [(step_div hp.h1).1, (step_div hq.h1).1] at e4
  exact ⟨e4, e3, e2⟩
theorem lo3_inj {a0 a1 a2 a3 a4 a5 p0 p1 p2 p3 p4 p5 q0 q1 q2 q3 q4 q5 : Int} (hp : PV a0 a1 a2 a3 a4 a5 p0 p1 p2 p3 p4 p5) (hq : PV a0 a1 a2 a3 a4 a5 q0 q1 q2 q3 q4 q5) (e : lo3 a4 a5 p3 p4 p5 = lo3 a4 a5 q3 q4 q5) : p3 = q3 ∧ p4 = q4 ∧ p5 = q5 := by
  unfold lo3 at e
  have e2 := congrArg (· % (2 : Int) ^ a5.toNat) e
  simp only [(step_div hp.h5).2, (step_div hq.h5).2] at e2
  have e1 := congrArg (· / (2 : Int) ^ a5.toNat) e
  simp only [(step_div hp.h5).1, (step_div hq.h5).1] at e1
  have e3 := congrArg (· % (2 : Int) ^ a4.toNat) e1
  simp only [(step_div hp.h4).2, (step_div hq.h4).2] at e3
  have e4 := congrArg (· / (2 : Int) ^ a4.toNat) e1
  simp only [(step_div hp.h4).1, (step_div hq.h4).1] at e4
  exact ⟨e4, e3, e2⟩
/-- The word that is used in place of word i: hb, hs: the bad rank's and the spare one's number; dn: how many words are copied. -/
def whF (R hb hs dn i : Int) : Int := if i / R = hb ∧ i % R < dn then hs * R + i % R else i

/-- Which rank and which word of it an index is. -/
theorem at_div {a0 a1 a2 a3 a4 a5 i : Int} (h : SV a0 a1 a2 a3 a4 a5) (hi0 : 0 ≤ i) (hi1 : i < 2 ^ (a0 + a1 + a2 + a3 + a4 + a5).toNat) :
    PV a0 a1 a2 a3 a4 a5 (atF a0 a1 a2 a3 a4 a5 i).a (atF a0 a1 a2 a3 a4 a5 i).b (atF a0 a1 a2 a3 a4 a5 i).c (atF a0 a1 a2 a3 a4 a5 i).d (atF a0 a1 a2 a3 a4 a5 i).e (atF a0 a1 a2 a3 a4 a5 i).f ∧
    i / rsz a3 a4 a5 = hi3 a1 a2 (atF a0 a1 a2 a3 a4 a5 i).a (atF a0 a1 a2 a3 a4 a5 i).b (atF a0 a1 a2 a3 a4 a5 i).c ∧ i % rsz a3 a4 a5 = lo3 a4 a5 (atF a0 a1 a2 a3 a4 a5 i).d (atF a0 a1 a2 a3 a4 a5 i).e (atF a0 a1 a2 a3 a4 a5 i).f := by
  obtain ⟨_, _, _, _, _, _, _, _, _, _, _, _, hall⟩ := atF_steps h hi0 hi1
  have := idx_div h hall.place
  rw [hall.index] at this
  exact ⟨hall.place, this⟩

theorem at_of_idx {a0 a1 a2 a3 a4 a5 p0 p1 p2 p3 p4 p5 : Int} (h : SV a0 a1 a2 a3 a4 a5) (hp : PV a0 a1 a2 a3 a4 a5 p0 p1 p2 p3 p4 p5) : atF a0 a1 a2 a3 a4 a5 (idx a1 a2 a3 a4 a5 p0 p1 p2 p3 p4 p5) = ⟨p0, p1, p2, p3, p4, p5⟩ := by
  have hin := idx_in h hp
  obtain ⟨_, _, _, _, _, _, _, _, _, _, _, _, hh⟩ := atF_steps h hin.1 hin.2
  obtain ⟨e0, e1, e2, e3, e4, e5⟩ := idx_inj hh.place hp hh.index
  have key : ∀ q : P6, q.a = p0 → q.b = p1 → q.c = p2 → q.d = p3 → q.e = p4 → q.f = p5 → q = ⟨p0, p1, p2, p3, p4, p5⟩ := by
    rintro ⟨_, _, _, _, _, _⟩ rfl rfl rfl rfl rfl rfl; rfl
  exact key _ e0 e1 e2 e3 e4 e5
theorem pv_swap {a0 a1 a2 a3 a4 a5 p0 p1 p2 p3 p4 p5 q0 q1 q2 : Int} (hp : PV a0 a1 a2 a3 a4 a5 p0 p1 p2 p3 p4 p5) (hq : PV a0 a1 a2 a3 a4 a5 q0 q1 q2 0 0 0) : PV a0 a1 a2 a3 a4 a5 q0 q1 q2 p3 p4 p5 := ⟨hq.h0, hq.h1, hq.h2, hp.h3, hp.h4, hp.h5⟩
/-- The word of another rank with the same number in its rank. -/
theorem at_moved {a0 a1 a2 a3 a4 a5 i so cn sp : Int} (h : SV a0 a1 a2 a3 a4 a5) (hi0 : 0 ≤ i) (hi1 : i < 2 ^ (a0 + a1 + a2 + a3 + a4 + a5).toNat) (hs : PV a0 a1 a2 a3 a4 a5 so cn sp 0 0 0) :
    atF a0 a1 a2 a3 a4 a5 (hi3 a1 a2 so cn sp * rsz a3 a4 a5 + i % rsz a3 a4 a5) = ⟨so, cn, sp, (atF a0 a1 a2 a3 a4 a5 i).d, (atF a0 a1 a2 a3 a4 a5 i).e, (atF a0 a1 a2 a3 a4 a5 i).f⟩ ∧
    0 ≤ hi3 a1 a2 so cn sp * rsz a3 a4 a5 + i % rsz a3 a4 a5 ∧ hi3 a1 a2 so cn sp * rsz a3 a4 a5 + i % rsz a3 a4 a5 < 2 ^ (a0 + a1 + a2 + a3 + a4 + a5).toNat := by
  obtain ⟨hp, _, hd2⟩ := at_div h hi0 hi1
  have hq := pv_swap hp hs
  have e : hi3 a1 a2 so cn sp * rsz a3 a4 a5 + i % rsz a3 a4 a5 = idx a1 a2 a3 a4 a5 so cn sp (atF a0 a1 a2 a3 a4 a5 i).d (atF a0 a1 a2 a3 a4 a5 i).e (atF a0 a1 a2 a3 a4 a5 i).f := by rw [idx_hilo h, hd2]
  rw [e]
  exact ⟨at_of_idx h hq, idx_in h hq⟩
theorem hi3_ne {a1 a2 so cn bd sp : Int} (h : bd ≠ sp) : hi3 a1 a2 so cn bd ≠ hi3 a1 a2 so cn sp := by unfold hi3; omega

/-- How many words below j lead elsewhere. -/
def cntM (R hb dn j : Int) : Int := if j ≤ hb * R then 0 else if j - hb * R ≤ dn then j - hb * R else dn
theorem div_iff {R hb j : Int} (hR : 1 ≤ R) (hj : 0 ≤ j) : (j / R = hb ↔ hb * R ≤ j ∧ j < hb * R + R) ∧ (j / R = hb → j % R = j - hb * R) := by
  have h1 := Int.mul_ediv_add_emod j R
  have h2 := Int.emod_nonneg j (show R ≠ 0 by omega)
  have h3 := Int.emod_lt_of_pos j (show 0 < R by omega)
  refine ⟨⟨fun e => ?_, fun ⟨h4, h5⟩ => ?_⟩, fun e => ?_⟩
  · rw [e, Int.mul_comm] at h1; omega
  · have : j / R * R ≤ j := Int.ediv_mul_le j (by omega)
    have e : j = hb * R + (j - hb * R) := by omega
    rw [e]
    exact (divmod_of (by omega)).1
  · rw [e, Int.mul_comm] at h1; omega
theorem cntM_step {R hb dn j : Int} (hR : 1 ≤ R) (hj : 0 ≤ j) (hd : 0 ≤ dn ∧ dn ≤ R) : cntM R hb dn (j + 1) = cntM R hb dn j + if j / R = hb ∧ j % R < dn then 1 else 0 := by
  obtain ⟨h1, h2⟩ := div_iff (hb := hb) hR hj
  by_cases hh : j / R = hb
  · have h3 := h1.1 hh
    have h4 := h2 hh
    by_cases hlt : j % R < dn
    · have e : (if j / R = hb ∧ j % R < dn then (1 : Int) else 0) = 1 := if_pos ⟨hh, hlt⟩
      rw [e]
      unfold cntM
      split <;> split <;> (try split) <;> (try split) <;> omega
    · have e : (if j / R = hb ∧ j % R < dn then (1 : Int) else 0) = 0 := if_neg (fun h => hlt h.2)
      rw [e]
      unfold cntM
      split <;> split <;> (try split) <;> (try split) <;> omega
  · have e : (if j / R = hb ∧ j % R < dn then (1 : Int) else 0) = 0 := if_neg (fun h => hh h.1)
    rw [e]
    have h3 : ¬ (hb * R ≤ j ∧ j < hb * R + R) := fun h => hh (h1.2 h)
    unfold cntM
    split <;> split <;> (try split) <;> (try split) <;> omega
theorem cntM_zero {R hb dn : Int} (hR : 1 ≤ R) (hb0 : 0 ≤ hb) : cntM R hb dn 0 = 0 := by
  unfold cntM; rw [if_pos (Int.mul_nonneg hb0 (by omega))]
theorem cntM_all {a0 a1 a2 a3 a4 a5 p0 p1 p2 dn : Int} (h : SV a0 a1 a2 a3 a4 a5) (hp : PV a0 a1 a2 a3 a4 a5 p0 p1 p2 0 0 0) (hd : 0 ≤ dn ∧ dn ≤ rsz a3 a4 a5) : cntM (rsz a3 a4 a5) (hi3 a1 a2 p0 p1 p2) dn (2 ^ (a0 + a1 + a2 + a3 + a4 + a5).toNat) = dn := by
  have h1 := hi3_in h hp
  have h2 := rsz_in h
  have e : (2 : Int) ^ (a0 + a1 + a2 + a3 + a4 + a5).toNat = 2 ^ (a0 + a1 + a2).toNat * rsz a3 a4 a5 := by
    obtain ⟨h0, h1, h2, h3, h4, h5, hs⟩ := h
    unfold rsz
    rw [pw_add (by omega) (by omega)]; congr 2; omega
  have h3 : (hi3 a1 a2 p0 p1 p2 + 1) * rsz a3 a4 a5 ≤ 2 ^ (a0 + a1 + a2).toNat * rsz a3 a4 a5 := Int.mul_le_mul_of_nonneg_right (by omega) (by omega)
  rw [Int.add_mul] at h3
  rw [e]
  unfold cntM
  split
  · omega
  · split <;> omega
theorem cntM_in {R hb dn j : Int} (hd : 0 ≤ dn) : 0 ≤ cntM R hb dn j ∧ cntM R hb dn j ≤ dn := by
  unfold cntM; split <;> (try split) <;> omega

/-! ### For RanksWhole -/
theorem whF_inj {R hb hs k i j : Int} (hR : 1 ≤ R) (hi : i / R ≠ hs) (hj : j / R ≠ hs) (e : whF R hb hs k i = whF R hb hs k j) : i = j := by
  have m1 : 0 ≤ i % R ∧ i % R < R := ⟨Int.emod_nonneg _ (by omega), Int.emod_lt_of_pos _ (by omega)⟩
  have m2 : 0 ≤ j % R ∧ j % R < R := ⟨Int.emod_nonneg _ (by omega), Int.emod_lt_of_pos _ (by omega)⟩
  have d1 := Int.mul_ediv_add_emod i R
  have d2 := Int.mul_ediv_add_emod j R
  unfold whF at e
  by_cases h1 : i / R = hb ∧ i % R < k <;> by_cases h2 : j / R = hb ∧ j % R < k
  · rw [if_pos h1, if_pos h2] at e
    rw [h1.1] at d1; rw [h2.1] at d2
    omega
  · rw [if_pos h1, if_neg h2] at e
    exact absurd (by rw [← e]; exact (divmod_of m1).1) hj
  · rw [if_neg h1, if_pos h2] at e
    exact absurd (by rw [e]; exact (divmod_of m2).1) hi
  · rw [if_neg h1, if_neg h2] at e; exact e
/-- A step of the sparing moves just the word that is copied. -/
theorem whF_step {R hb hs k i : Int} (hR : 1 ≤ R) (hk : 0 ≤ k ∧ k < R) (hne : hb ≠ hs) : (whF R hb hs k i ≠ whF R hb hs (k + 1) i ↔ i = hb * R + k) ∧ (i = hb * R + k → whF R hb hs k i = hb * R + k ∧ whF R hb hs (k + 1) i = hs * R + k) := by
  have m1 : 0 ≤ i % R ∧ i % R < R := ⟨Int.emod_nonneg _ (by omega), Int.emod_lt_of_pos _ (by omega)⟩
  have d1 := Int.mul_ediv_add_emod i R
  have key : i = hb * R + k → i / R = hb ∧ i % R = k := fun e => by rw [e]; exact divmod_of hk
  have hback : i / R = hb → i % R = k → i = hb * R + k := fun e1 e2 => by rw [e1, e2, Int.mul_comm] at d1; omega
  refine ⟨⟨fun h => ?_, fun e => ?_⟩, fun e => ?_⟩
  · refine Decidable.byContradiction fun hn => h ?_
    unfold whF
    by_cases h1 : i / R = hb
    · by_cases h2 : i % R < k
      · rw [if_pos ⟨h1, h2⟩, if_pos ⟨h1, by omega⟩]
      · have h3 : i % R ≠ k := fun e => hn (hback h1 e)
        rw [if_neg (fun h => h2 h.2), if_neg (fun h => by have := h.2; omega)]
    · rw [if_neg (fun h => h1 h.1), if_neg (fun h => h1 h.1)]
  · obtain ⟨h1, h2⟩ := key e
    unfold whF
    rw [if_neg (fun h => by have := h.2; omega), if_pos ⟨h1, by omega⟩, h2]
    intro e2
    have : i / R = hs := by rw [e2]; exact (divmod_of hk).1
    exact hne (h1.symm.trans this)
  · obtain ⟨h1, h2⟩ := key e
    unfold whF
    rw [if_neg (fun h => by have := h.2; omega), if_pos ⟨h1, by omega⟩, h2]
    exact ⟨e, rfl⟩
theorem whF_stays {R hb hs k i : Int} (h : i / R ≠ hb) : whF R hb hs k i = i := by unfold whF; rw [if_neg (fun hh => h hh.1)]
theorem whF_all {R hb hs i : Int} (hR : 1 ≤ R) (h : i / R = hb) : whF R hb hs R i = hs * R + i % R := by
  unfold whF; rw [if_pos ⟨h, Int.emod_lt_of_pos _ (by omega)⟩]
theorem whF_in {a0 a1 a2 a3 a4 a5 i so cn bd sp k : Int} (h : SV a0 a1 a2 a3 a4 a5) (hi0 : 0 ≤ i) (hi1 : i < 2 ^ (a0 + a1 + a2 + a3 + a4 + a5).toNat) (hs : PV a0 a1 a2 a3 a4 a5 so cn sp 0 0 0) :
    0 ≤ whF (rsz a3 a4 a5) (hi3 a1 a2 so cn bd) (hi3 a1 a2 so cn sp) k i ∧ whF (rsz a3 a4 a5) (hi3 a1 a2 so cn bd) (hi3 a1 a2 so cn sp) k i < 2 ^ (a0 + a1 + a2 + a3 + a4 + a5).toNat := by
  unfold whF
  split
  · exact (at_moved h hi0 hi1 hs).2
  · exact ⟨hi0, hi1⟩
end Go.Proofs.Ytaeockopliplfaa
