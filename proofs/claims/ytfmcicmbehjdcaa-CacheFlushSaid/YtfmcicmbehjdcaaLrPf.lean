/- Plain law of CacheFlush's count, and mill.Cache's bound, frozen. -/
import Derived.Test.YtfmcicmbehjdcaaLrPl
import Derived.Test.YtfmcicmbehjdcaaLrWa
namespace Go.Proofs.Ytfmcicmbehjdcaa
set_option linter.unusedSimpArgs false
set_option linter.unusedVariables false
open Go.RowKit

def GivesCacheAF (B b : Nat) (w : World) (e : Ending) (w' : World) : Prop := ∃ (S W z : Nat) (l : List Sm) (x : Sv) (F : Nat → Prop), S ≤ 3 ∧ 1 ≤ z ∧ z ≤ 3 ∧ GoodA S W z l ∧ e = .returned (caV S W z x) ∧ HS (OneD b) w [.dice B b, .any F (fun w => SlotsAt w x l)] w'
theorem GivesCacheA.fz {B b : Nat} {w w' : World} {e : Ending} (h : GivesCacheA B b w e w') : GivesCacheAF B b w e w' := by
  obtain ⟨S, W, z, s, c, qs, F, h1, h2, h3, hg, he, K⟩ := h
  obtain ⟨F', K'⟩ := HS.freeze (L := [_]) (K' := fun _ => True) K rfl (fun w h => ⟨h, trivial⟩)
  exact ⟨S, W, z, _, _, F', h1, h2, h3, hg, he, HS.weak (L := [_]) K' fun w h => h.1⟩
theorem mcacheA_f (B b : Nat) (w : World) (hd : Dice B w b) (hB : B ≤ w.heap.size) : Calls Try.prog 10 #[.pointer (some ⟨b, 0, none⟩)] w (GivesCacheAF B b w) := (mcacheA_any B b w hd hB).mono fun _ _ h => h.fz
/-- The dirty lines with addresses below k. -/
def cntA (k : Int) (ts : List Lm) : Nat := ts.countP (fun m => decide (m.ad < k))
theorem cntA_succ (k : Int) : ∀ ts : List Lm, cntA (k + 1) ts = cntA k ts + ts.countP (fun m => decide (m.ad = k))
  | [] => rfl
  | m :: ts => by
    have ih := cntA_succ k ts
    unfold cntA at ih ⊢
    rw [List.countP_cons, List.countP_cons, List.countP_cons, ih]
    by_cases h1 : m.ad < k
    · have h2 : m.ad < k + 1 := by omega
      have h3 : ¬ m.ad = k := by omega
      rw [decide_eq_true h1, decide_eq_true h2, decide_eq_false h3]; simp only [if_true, Bool.false_eq_true, if_false]; omega
    · by_cases h3 : m.ad = k
      · have h2 : m.ad < k + 1 := by omega
        rw [decide_eq_false h1, decide_eq_true h2, decide_eq_true h3]; simp only [if_true, Bool.false_eq_true, if_false]; omega
      · have h2 : ¬ m.ad < k + 1 := by omega
        rw [decide_eq_false h1, decide_eq_false h2, decide_eq_false h3]; simp only [Bool.false_eq_true, if_false]; omega
theorem cntA_zero {ts : List Lm} (h : ∀ m ∈ ts, 0 ≤ m.ad) : cntA 0 ts = 0 := by
  unfold cntA
  rw [List.countP_eq_zero]
  intro m hm
  have := h m hm
  simp; omega
theorem cntA_all {ts : List Lm} {k : Int} (h : ∀ m ∈ ts, m.ad < k) : cntA k ts = ts.length := by
  unfold cntA
  rw [List.countP_eq_length]
  intro m hm
  simp [h m hm]
theorem cnt_one {ts : List Lm} {k : Int} (h : ts.Pairwise (fun x y => x.ad ≠ y.ad)) {m : Lm} (hm : m ∈ ts) (e : m.ad = k) : ts.countP (fun m => decide (m.ad = k)) = 1 := by
  induction ts with
  | nil => exact absurd hm List.not_mem_nil
  | cons t ts ih =>
    obtain ⟨h1, h2⟩ := List.pairwise_cons.1 h
    rw [List.countP_cons]
    by_cases ht : t.ad = k
    · have h0 : ts.countP (fun m => decide (m.ad = k)) = 0 := by
        rw [List.countP_eq_zero]
        intro q hq
        have := h1 q hq
        simp; omega
      simp [h0, ht]
    · rcases List.mem_cons.1 hm with rfl | hm
      · exact absurd e ht
      · rw [ih h2 hm]; simp [ht]
theorem cnt_none {ts : List Lm} {k : Int} (h : ∀ m ∈ ts, m.ad ≠ k) : ts.countP (fun m => decide (m.ad = k)) = 0 := by
  rw [List.countP_eq_zero]
  intro m hm
  simp [h m hm]
theorem cntA_dirty {S W : Nat} {size : Int} {l : List Sm} (h : GoodC S W size l) {ts : List Lm} (ht : DirtyR l ts) {k : Int} {o : List Sm × Lm × Bool} (ho : GetR S W l k o) : cntA (k + 1) ts = cntA k ts + (if o.2.2 && o.2.1.d then 1 else 0) := by
  rw [cntA_succ]
  congr 1
  have hnd : ts.Pairwise (fun x y => x.ad ≠ y.ad) := (h.dirty_up ht).imp fun h => by omega
  rcases ho with ⟨hn, rfl⟩ | ⟨s, r, hs, hr, hh, rfl⟩
  · exact cnt_none fun m hm e => by
      obtain ⟨j, hj, h1, -, -⟩ := mem_dirtyL (ht.1.mem_iff.1 hm)
      exact hn j hj (by rw [← e]; exact h1)
  · have hlt : s * W + r < l.length := by have := h.fits hs; omega
    dsimp only
    cases hd : (l[s * W + r]!).ln.d
    · exact cnt_none fun m hm e => by
        obtain ⟨j, hj, h1, h2, h3⟩ := mem_dirtyL (ht.1.mem_iff.1 hm)
        have := h.hit_j hj hlt (by rw [← e]; exact h1) hh
        rw [← this, h2, h3] at hd
        cases hd
    · refine cnt_one hnd (m := (l[s * W + r]!).ln) (ht.1.mem_iff.2 ?_) hh.2
      unfold dirtyL
      refine List.mem_map.2 ⟨l[s * W + r]!, List.mem_filter.2 ⟨by rw [getElem!_pos l _ hlt]; exact List.getElem_mem _, ?_⟩, rfl⟩
      simp only [isDi, Bool.and_eq_true]
      exact ⟨hh.1, hd⟩
theorem dirty_in {S W : Nat} {size : Int} {l : List Sm} (h : GoodA S W size l) {ts : List Lm} (ht : DirtyR l ts) : ∀ m ∈ ts, 0 ≤ m.ad ∧ m.ad < 14 := fun m hm => by
  obtain ⟨j, hj, h1, rfl, h3⟩ := mem_dirtyL (ht.1.mem_iff.1 hm)
  obtain ⟨c1, c2, c3⟩ := h.1.coord hj
  refine ⟨?_, h.2 j hj h1.1⟩
  have := (h.1.sets _ c1).line _ c2 (by unfold rowG; rw [c3]; exact h1.1)
  unfold rowG at this
  rw [c3] at this
  exact (of_decide_eq_true this).2.2.2.1
end Go.Proofs.Ytfmcicmbehjdcaa
