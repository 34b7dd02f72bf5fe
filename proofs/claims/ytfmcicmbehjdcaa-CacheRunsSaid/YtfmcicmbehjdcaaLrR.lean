/- Plain laws of a line dropped; cells stored one after the other into a row of one's own. -/
import Derived.Test.YtfmcicmbehjdcaaLrP
import Derived.Test.YtfmcicmbehjdcaaInsG
import Derived.Test.YtfmcicmbehjdcaaOwnT
namespace Go.Proofs.Ytfmcicmbehjdcaa
set_option linter.unusedSimpArgs false
set_option linter.unusedVariables false
open Go.RowKit

def setsL {α : Type} : List α → Nat → List α → List α
  | xs, _, [] => xs
  | xs, o, v :: vs => setsL (xs.set o v) (o + 1) vs
theorem setsL_len {α : Type} : ∀ (vs : List α) (xs : List α) (o : Nat), (setsL xs o vs).length = xs.length
  | [], _, _ => rfl
  | v :: vs, xs, o => by rw [setsL, setsL_len, List.length_set]
theorem setsL_get {α : Type} : ∀ (vs : List α) (xs : List α) (o j : Nat), o + vs.length ≤ xs.length → (setsL xs o vs)[j]? = if o ≤ j ∧ j < o + vs.length then vs[j - o]? else xs[j]?
  | [], xs, o, j, _ => by rw [setsL, if_neg (by simp)]
  | v :: vs, xs, o, j, h => by
    rw [List.length_cons] at h
    rw [setsL, setsL_get vs _ (o + 1) j (by rw [List.length_set]; omega), List.length_cons]
    by_cases e : j = o
    · subst e
      rw [if_neg (by omega), if_pos (by omega), Nat.sub_self, List.getElem?_cons_zero, List.getElem?_set_self (by omega)]
    · by_cases c : o + 1 ≤ j ∧ j < o + 1 + vs.length
      · rw [if_pos c, if_pos (by omega), show j - o = j - (o + 1) + 1 by omega, List.getElem?_cons_succ]
      · rw [if_neg c, if_neg (by omega), List.getElem?_set_ne (Ne.symm e)]
theorem HS.rowSets {D : Nat → Prop} {W : World} {g n cap k : Nat} {e : TypeId} (i : Nat) : ∀ (vs : List Value) (o : Nat) {w : World} {L : List Item} {xs : List Value}, HS D W L w → L[i]? = some (.row (.slice (some ⟨g, 0, none⟩) n cap) e k n xs) →
    HS D W (L.set i (.row (.slice (some ⟨g, 0, none⟩) n cap) e k n (setsL xs o vs))) (w.setCells g o vs)
  | [], o, w, L, xs, h, hi => by
    have : L.set i (.row (.slice (some ⟨g, 0, none⟩) n cap) e k n xs) = L := by
      refine List.ext_getElem? fun j => ?_
      by_cases e : i = j
      · subst e; rw [List.getElem?_set_self (List.getElem?_eq_some_iff.1 hi).1, hi]
      · rw [List.getElem?_set_ne e]
    rw [setsL, this]
    exact h
  | v :: vs, o, w, L, xs, h, hi => by
    have h1 := h.rowSet i hi o v
    have h2 := HS.rowSets i vs (o + 1) (xs := xs.set o v) h1 (by rw [List.getElem?_set_self (List.getElem?_eq_some_iff.1 hi).1])
    rw [List.set_set] at h2
    exact h2
/-- Slots moved down by one within a set. -/
def moveQ (lo W j : Nat) (qs : List Sw) : List Sw := qs.mapIdx fun t q => if lo + j ≤ t ∧ t + 1 < lo + W then qs[t + 1]! else q
theorem moveQ_len (lo W j : Nat) (qs : List Sw) : (moveQ lo W j qs).length = qs.length := List.length_mapIdx
theorem moveQ_get {lo W j : Nat} {qs : List Sw} {t : Nat} (ht : t < qs.length) : (moveQ lo W j qs)[t]! = if lo + j ≤ t ∧ t + 1 < lo + W then qs[t + 1]! else qs[t]! := by
  unfold moveQ
  rw [getElem!_pos _ t (by rw [List.length_mapIdx]; exact ht), List.getElem_mapIdx, getElem!_pos qs t ht]
theorem flat_at {qs : List Sw} {t m : Nat} (ht : t < qs.length) (hm : m < 6) : (qs.flatMap swC)[t * 6 + m]? = (swC qs[t]!)[m]? := by
  obtain ⟨v, hv⟩ : ∃ v, (swC qs[t]!)[m]? = some v := ⟨_, List.getElem?_eq_getElem (by rw [swC_len]; exact hm)⟩
  rw [hv]
  exact flat_get swC_len qs t m v ht hv
/-- What copy stores. -/
def movedQ (lo W j : Nat) (qs : List Sw) : List Sw := (qs.drop (lo + j + 1)).take (W - (j + 1))
theorem movedQ_len {lo W j : Nat} {qs : List Sw} (hin : lo + W ≤ qs.length) (hj : j < W) : (movedQ lo W j qs).length = W - (j + 1) := by
  unfold movedQ
  rw [List.length_take, List.length_drop]
  omega
theorem movedQ_get {lo W j : Nat} {qs : List Sw} (hin : lo + W ≤ qs.length) (hj : j < W) {t : Nat} (ht : t < W - (j + 1)) : (movedQ lo W j qs)[t]! = qs[lo + j + 1 + t]! := by
  rw [getElem!_pos _ t (by rw [movedQ_len hin hj]; exact ht), getElem!_pos qs _ (by omega)]
  unfold movedQ
  rw [List.getElem_take, List.getElem_drop]
theorem moveQ_flat {lo W j : Nat} {qs : List Sw} (hin : lo + W ≤ qs.length) (hj : j < W) : setsL (qs.flatMap swC) ((lo + j) * 6) ((movedQ lo W j qs).flatMap swC) = (moveQ lo W j qs).flatMap swC := by
  have hm := movedQ_len hin hj
  refine List.ext_getElem? fun i => ?_
  have hl : (lo + j) * 6 + ((movedQ lo W j qs).flatMap swC).length ≤ (qs.flatMap swC).length := by
    rw [flat_len swC_len, flat_len swC_len, hm]; omega
  rw [setsL_get _ _ _ _ hl, flat_len swC_len, hm]
  by_cases hi : i < qs.length * 6
  · obtain ⟨t, m, rfl, hm6, ht⟩ : ∃ t m, i = t * 6 + m ∧ m < 6 ∧ t < qs.length := ⟨i / 6, i % 6, by omega, by omega, by omega⟩
    rw [flat_at (qs := moveQ lo W j qs) (by rw [moveQ_len]; exact ht) hm6, moveQ_get ht]
    by_cases c : lo + j ≤ t ∧ t + 1 < lo + W
    · rw [if_pos c, if_pos (by omega), show t * 6 + m - (lo + j) * 6 = (t - (lo + j)) * 6 + m by omega, flat_at (by rw [hm]; omega) hm6, movedQ_get hin hj (by omega), show lo + j + 1 + (t - (lo + j)) = t + 1 by omega]
    · rw [if_neg c, if_neg (by omega), flat_at ht hm6]
  · rw [if_neg (by omega), List.getElem?_eq_none (by rw [flat_len swC_len]; omega), List.getElem?_eq_none (by rw [flat_len swC_len, moveQ_len]; omega)]
def decS (a : Int) (q : Sw) : Sw := if q.s.u = true ∧ a < q.s.age then ⟨⟨q.s.u, q.s.age - 1, q.s.ln⟩, q.x⟩ else q
def decK (lo k : Nat) (a : Int) (qs : List Sw) : List Sw := qs.mapIdx fun t q => if lo ≤ t ∧ t < k then decS a q else q
theorem decK_len (lo k : Nat) (a : Int) (qs : List Sw) : (decK lo k a qs).length = qs.length := List.length_mapIdx
theorem decK_get {lo k : Nat} {a : Int} {qs : List Sw} {t : Nat} (ht : t < qs.length) : (decK lo k a qs)[t]! = if lo ≤ t ∧ t < k then decS a qs[t]! else qs[t]! := by
  unfold decK
  rw [getElem!_pos _ t (by rw [List.length_mapIdx]; exact ht), List.getElem_mapIdx, getElem!_pos qs t ht]
theorem decK_out {lo k : Nat} {a : Int} {qs : List Sw} {t : Nat} (ht : t < qs.length) (h : k ≤ t) : (decK lo k a qs)[t]! = qs[t]! := by
  rw [decK_get ht, if_neg (by omega)]
theorem decK_zero (lo : Nat) (a : Int) (qs : List Sw) : decK lo lo a qs = qs := list_ext! (decK_len _ _ _ _) fun j hj => by
  rw [decK_len] at hj
  rw [decK_get hj, if_neg (by omega)]
theorem decK_step {lo k : Nat} {a : Int} {qs : List Sw} (hk : k < qs.length) (hlo : lo ≤ k) : (decK lo k a qs).set k (decS a qs[k]!) = decK lo (k + 1) a qs := list_ext! (by rw [List.length_set, decK_len, decK_len]) fun j hj => by
  rw [List.length_set, decK_len] at hj
  rw [set_getG _ _ _ _ (by rw [decK_len]; exact hj), decK_get hj]
  by_cases e : j = k
  · subst e; rw [if_pos rfl, decK_get hj, if_pos (by omega)]
  · rw [if_neg e, decK_get hj]
    by_cases c : lo ≤ j ∧ j < k
    · rw [if_pos c, if_pos (by omega)]
    · rw [if_neg c, if_neg (by omega)]
theorem decK_yes {lo k : Nat} {a : Int} {qs : List Sw} (hk : k < qs.length) (hlo : lo ≤ k) (h : (qs[k]!).s.u = true ∧ a < (qs[k]!).s.age) : (decK lo k a qs).set k ⟨⟨(qs[k]!).s.u, (qs[k]!).s.age - 1, (qs[k]!).s.ln⟩, (qs[k]!).x⟩ = decK lo (k + 1) a qs := by
  rw [← decK_step hk hlo]
  unfold decS
  rw [if_pos h]
theorem decK_no {lo k : Nat} {a : Int} {qs : List Sw} (hk : k < qs.length) (h : ¬ ((qs[k]!).s.u = true ∧ a < (qs[k]!).s.age)) : decK lo k a qs = decK lo (k + 1) a qs := list_ext! (by rw [decK_len, decK_len]) fun j hj => by
  rw [decK_len] at hj
  rw [decK_get hj, decK_get hj]
  by_cases e : j = k
  · subst e
    have : decS a qs[j]! = qs[j]! := by unfold decS; rw [if_neg h]
    rw [this]; simp
  · by_cases c : lo ≤ j ∧ j < k
    · rw [if_pos c, if_pos (by omega)]
    · rw [if_neg c, if_neg (by omega)]
/-- The slots behind a drop. -/
def dropQ (lo W j : Nat) (qs : List Sw) : List Sw := decK lo (lo + W) (qs[lo + j]!).s.age ((moveQ lo W j qs).set (lo + (W - 1)) zSw)
theorem dropQ_len (lo W j : Nat) (qs : List Sw) : (dropQ lo W j qs).length = qs.length := by unfold dropQ; rw [decK_len, List.length_set, moveQ_len]
theorem dropQ_map {W s j : Nat} {qs : List Sw} {l : List Sm} (hq : qs.map Sw.s = l) (hin : s * W + W ≤ qs.length) (hj : j < W) : (dropQ (s * W) W j qs).map Sw.s = onSet W s l (dropG W (rowG W l s) j) := by
  have hql : qs.length = l.length := by rw [← hq, List.length_map]
  have hat : ∀ t, t < qs.length → (qs[t]!).s = l[t]! := fun t ht => by rw [← hq, map_get _ _ _ ht]
  refine list_ext! (by rw [List.length_map, dropQ_len, onSet_len, hql]) fun t ht => ?_
  rw [List.length_map, dropQ_len] at ht
  rw [map_get _ _ _ (by rw [dropQ_len]; exact ht), onSet_get (by omega)]
  unfold dropQ
  rw [decK_get (by rw [List.length_set, moveQ_len]; exact ht), set_getG _ _ _ _ (by rw [moveQ_len]; exact ht), moveQ_get ht]
  by_cases c : s * W ≤ t ∧ t < s * W + W
  · rw [if_pos c, if_pos c]
    have ha : (qs[s * W + j]!).s.age = (rowG W l s j).age := by rw [hat _ (by omega)]; rfl
    have hd : ∀ q : Sw, (decS (rowG W l s j).age q).s = decG (rowG W l s j).age q.s := fun q => by
      unfold decS decG
      split <;> rfl
    rw [ha, hd]
    unfold dropG
    congr 1
    by_cases h1 : t - s * W < j
    · rw [if_pos h1, if_neg (by omega), if_neg (by omega), hat t ht]
      unfold rowG
      rw [show s * W + (t - s * W) = t by omega]
    · rw [if_neg h1]
      by_cases h2 : t - s * W + 1 < W
      · rw [if_pos h2, if_neg (by omega), if_pos (by omega), hat (t + 1) (by omega)]
        unfold rowG
        rw [show s * W + (t - s * W + 1) = t + 1 by omega]
      · rw [if_neg h2, if_pos (by omega)]
        rfl
  · rw [if_neg c, if_neg c, if_neg (by omega), if_neg (by omega), hat t ht]
theorem dropQ_ok {lo W j : Nat} {qs : List Sw} {w : World} (hin : lo + W ≤ qs.length) (h : SlotsOk w qs) : SlotsOk w (dropQ lo W j qs) := fun t ht => by
  rw [dropQ_len] at ht
  have hm : SlotsOk w (moveQ lo W j qs) := fun i hi => by
    rw [moveQ_len] at hi
    rw [moveQ_get hi]
    split
    · exact h _ (by omega)
    · exact h _ hi
  have hz : SlotsOk w ((moveQ lo W j qs).set (lo + (W - 1)) zSw) := slotsOk_set hm (bytes_nil w)
  unfold dropQ
  rw [decK_get (by rw [List.length_set, moveQ_len]; exact ht)]
  have := hz t (by rw [List.length_set, moveQ_len]; exact ht)
  split
  · unfold decS
    split <;> exact this
  · exact this
theorem movedQ_src {lo W j : Nat} {qs : List Sw} (hin : lo + W ≤ qs.length) (hj : j < W) {i : Nat} {v : Value} (h : ((movedQ lo W j qs).flatMap swC)[i]? = some v) : i < (W - (j + 1)) * 6 ∧ (qs.flatMap swC)[(lo + j + 1) * 6 + i]? = some v := by
  have hi := (List.getElem?_eq_some_iff.1 h).1
  rw [flat_len swC_len, movedQ_len hin hj] at hi
  refine ⟨hi, ?_⟩
  obtain ⟨t, m, rfl, hm6, ht⟩ : ∃ t m, i = t * 6 + m ∧ m < 6 ∧ t < W - (j + 1) := ⟨i / 6, i % 6, by omega, by omega, by omega⟩
  rw [flat_at (by rw [movedQ_len hin hj]; exact ht) hm6, movedQ_get hin hj ht] at h
  rw [show (lo + j + 1) * 6 + (t * 6 + m) = (lo + j + 1 + t) * 6 + m by omega, flat_at (by omega) hm6]
  exact h
set_option maxHeartbeats 2000000 in
theorem run_moves {lo W j g N c dc sc : Nat} {ty : TypeId} {ad : Addr} {qs : List Sw} (hN : qs.length = N) (hin : lo + W ≤ N) (hj : j < W) (had : 0 < W - (j + 1) → ad = ⟨g, lo * 6 + (j + 1) * 6, none⟩) (w : World) (hrow : w.ownsRow 0 37 6 (.slice (some ⟨g, 0, none⟩) N c) N (qs.flatMap swC)) :
    (Builtin.copy_ #[22, 22] ty #[.slice (some ⟨g, lo * 6 + j * 6, none⟩) (W - j) dc, .slice (some ad) (W - (j + 1)) sc]).run Try.prog w = .ok (goInt ((W - (j + 1) : Nat) : Int)) (w.setCells g ((lo + j) * 6) ((movedQ lo W j qs).flatMap swC)) := by
  subst hN
  obtain ⟨i, i1, i2, i3, i4⟩ := elemSw.hi
  have H := HS.startOwn hrow
  have hm := movedQ_len hin hj
  have key := run_copy_sized w 22 22 ty 37 6 g (lo * 6 + j * 6) (W - j) dc ad (W - (j + 1)) sc ((movedQ lo W j qs).flatMap swC) Try.underlying22 i1 i3
    (by rw [flat_len swC_len, hm, show Nat.min (W - (j + 1)) (W - j) = W - (j + 1) from Nat.min_eq_left (by omega)])
    (fun k v hv => by
      obtain ⟨h1, h2⟩ := movedQ_src hin hj hv
      rw [had (by omega), Addr.add_lit, show lo * 6 + (j + 1) * 6 + k = (lo + j + 1) * 6 + k by omega]
      exact (H.rowCells 0 rfl ((lo + j + 1) * 6 + k) (by omega)).1.trans h2)
    (fun k hk => by
      rw [flat_len swC_len, hm] at hk
      rw [← Nat.add_mul, (H.rowCells 0 rfl ((lo + j) * 6 + k) (by omega)).1, List.getElem?_eq_getElem (by rw [flat_len swC_len]; omega)]
      rfl)
    (fun k hk => by
      rw [flat_len swC_len, hm] at hk
      rw [← Nat.add_mul]
      exact (H.rowCells 0 rfl ((lo + j) * 6 + k) (by omega)).2)
    (fun v hv => swC_one _ v hv)
  rw [show Nat.min (W - (j + 1)) (W - j) = W - (j + 1) from Nat.min_eq_left (by omega)] at key
  rw [Nat.add_mul lo j 6]
  exact key
theorem Same.setCells {St : Nat → Prop} {w0 w : World} (hs : Same St w0 w) {b : Nat} (h : ∀ k, St k → k ≠ b) (o : Nat) (vs : List Value) : Same St w0 (w.setCells b o vs) := fun k hk => ((below_cells vs o w).2.2.2.2 k (h k hk)).trans (hs k hk)
end Go.Proofs.Ytfmcicmbehjdcaa
