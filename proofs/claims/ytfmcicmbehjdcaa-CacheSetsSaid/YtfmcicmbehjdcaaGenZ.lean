/- Such a region, whose last operation looks at all the others (a store into what they load, mostly). -/
import Derived.Test.YtfmcicmbehjdcaaGenA
import Derived.Test.YtfmcicmbehjdcaaZed
namespace Go.Proofs.Ytfmcicmbehjdcaa
set_option linter.unusedSimpArgs false
set_option linter.unusedVariables false
open Go.RowKit

section
variable {P : Program} {ops : Array Oper} {St D : Nat → Prop} {W w0 : World}
theorem gen_sound_z {cert : Array Nat} (hback : backB ops cert = true) (hsel : Region.noSelect ops = true) (hok : ops.all (okOp P) = true) (hW : W.heap.size ≤ w0.heap.size) (hst : ∀ k, St k → k < w0.heap.size) {Q : Act → Fl → List Item → Prop} {Q' : Exit → Act → World → Prop} {n : Nat} (hn : ops.size = n + 1) (hlast : ∀ i, i < n → (cert.getD n 0).testBit i = true)
    (hQ : ∀ a w F L, ClH St D W w0 F L w → Q a F L → wpOp P ops Q' n (fun a w => Q' .normal a w) a w) :
    ∀ (fuel : Nat) (l : List Nat) (listed : Array Bool) (a : Act) (w : World) (F : Fl) (L : List Item), l.length + 1 ≤ fuel → (∀ i, i ∈ l ↔ i < n ∧ listed.getD i true = false) → listed.getD n true = false → l.Nodup → orderG ops cert l = true →
      Closed ops listed → listed.size = ops.size → ClH St D W w0 F L w → wpH P St D W w0 ops Q (l.filterMap (ops[·]?)) a F L → wpAny P .any ops Q' fuel listed a w := by
  intro fuel
  induction fuel with
  | zero => intro l listed a w F L hlen; omega
  | succ fuel ih =>
    intro l listed a w F L hlen hmem hln hnd hord hcl hsz hc h
    have hunl : ∀ i, i < n → i ∉ l → listed.getD i false = true := fun i hi hnl => by
      have h1 : ¬ listed.getD i true = false := fun hh => hnl ((hmem i).2 ⟨hi, hh⟩)
      have hi' : i < listed.size := by omega
      simp [hi'] at h1 ⊢
      exact h1
    refine ⟨fun hr => ?_, fun j hj => ?_⟩
    · exfalso
      cases l with
      | nil =>
        have hio : ops[n]? = some (ops[n]'(by omega)) := Array.getElem?_eq_getElem (by omega)
        have : n ∈ Region.ready .any ops listed := mem_ready.2 ⟨hln, _, hio, fun e he hb => by
          have hlt := (back_at hback hio).1 e he hb
          exact hunl e.on hlt (by simp)⟩
        rw [hr] at this
        cases this
      | cons i l =>
        obtain ⟨hi, hi0⟩ := (hmem i).1 (by simp)
        have hio : ops[i]? = some (ops[i]'(by omega)) := Array.getElem?_eq_getElem (by omega)
        have hin : i ∈ Region.ready .any ops listed := mem_ready.2 ⟨hi0, _, hio, fun e he hb => by
          have hlt := (back_at hback hio).1 e he hb
          simp only [orderG, hio, Bool.and_eq_true] at hord
          have := (Array.all_eq_true_iff_forall_mem.1 hord.1.1) e he
          simp only [hb, Bool.not_true, Bool.false_or, Bool.not_eq_true', List.contains_eq_mem, decide_eq_false_iff_not] at this
          refine hunl e.on (by omega) fun hin => ?_
          rcases List.mem_cons.1 hin with h | h
          · omega
          · exact this h⟩
        rw [hr] at hin
        cases hin
    · obtain ⟨h0, oj, hoj, hall⟩ := mem_ready.1 hj
      have hjsz : j < ops.size := (Array.getElem?_eq_some_iff.1 hoj).1
      by_cases hjn : j = n
      · subst hjn
        have hnil : l = [] := List.eq_nil_iff_forall_not_mem.2 fun i hi => by
          obtain ⟨h1, h2⟩ := (hmem i).1 hi
          have h3 := back_listed hback hcl j j oj (Nat.le_refl _) hoj hall i h1 (hlast i h1)
          have hi' : i < listed.size := by omega
          simp [hi'] at h2 h3
          rw [h2] at h3; cases h3
        subst hnil
        refine wpOp_mono (fun a' w' hh => ?_) (hQ a w F L hc h)
        have hnone : Region.ready .any ops (listed.setIfInBounds j true) = [] := by
          refine List.eq_nil_iff_forall_not_mem.2 fun k hk => ?_
          obtain ⟨k0, ok, hok, _⟩ := mem_ready.1 hk
          have hklt : k < ops.size := (Array.getElem?_eq_some_iff.1 hok).1
          by_cases e : k = j
          · subst e
            simp [show k < listed.size by omega] at k0
          · rw [getD_set_ne true (Ne.symm e)] at k0
            have := (hmem k).2 ⟨by omega, k0⟩
            cases this
        cases fuel with
        | zero => exact ⟨hnone, hh⟩
        | succ f => exact ⟨fun _ => hh, fun k hk => by rw [hnone] at hk; cases hk⟩
      have hjlt : j < n := by omega
      obtain ⟨l1, l2, rfl⟩ := List.append_of_mem ((hmem j).2 ⟨hjlt, h0⟩)
      have hsel' := Region.noSelect_spec hsel
      have hokj : okOp P oj = true := Array.all_eq_true_iff_forall_mem.1 hok oj (Array.mem_of_getElem? hoj)
      rw [List.filterMap_append, List.filterMap_cons_some hoj] at h
      have hfront := frontH (P := P) (St := St) (D := D) (W := W) (w0 := w0) (hsel' j oj · · hoj) hokj _ _ (fun oi hoi => by
        obtain ⟨x, hx, hxo⟩ := List.mem_filterMap.1 hoi
        obtain ⟨ox, hox, hcase⟩ := orderG_at hoj l2 l1 hord x hx
        rw [hox] at hxo
        cases hxo
        refine ⟨fun cs b => hsel' x _ cs b hox, Array.all_eq_true_iff_forall_mem.1 hok _ (Array.mem_of_getElem? hox), ?_⟩
        rcases hcase with ⟨hlt, hb⟩ | hcase
        · exfalso
          have h1 := back_listed hback hcl j j oj (Nat.le_refl _) hoj hall x hlt hb
          have h2 := ((hmem x).1 (by simp [hx])).2
          have hi' : x < listed.size := by omega
          simp [hi'] at h1 h2
          rw [h1] at h2; cases h2
        · exact hcase) a F L w hW hst hc h
      refine wpOp_mono (fun a' w' hh => ?_) (stepH_op hoj hokj hW hst hc hfront)
      obtain ⟨F', L', hc', hh⟩ := hh
      rw [← List.filterMap_append] at hh
      have hnd' := hnd
      rw [List.nodup_append] at hnd'
      have hj1 : j ∉ l1 := fun hin => hnd'.2.2 j hin j (by simp) rfl
      have hj2 : j ∉ l2 := (List.nodup_cons.1 hnd'.2.1).1
      refine ih (l1 ++ l2) _ a' w' F' L' (by simp at hlen ⊢; omega) (fun i => ?_) (by rw [getD_set_ne true hjn]; exact hln) ?_ (orderG_drop l2 l1 hord) ?_ (by simpa using hsz) hc' hh
      · have hne : ∀ i, i ∈ l1 ++ l2 → i ≠ j := fun i hi e => by
          subst e
          rcases List.mem_append.1 hi with h | h
          · exact hj1 h
          · exact hj2 h
        constructor
        · intro hi
          obtain ⟨h1, h2⟩ := (hmem i).1 (by rcases List.mem_append.1 hi with h | h <;> simp [h])
          exact ⟨h1, by rw [getD_set_ne true (Ne.symm (hne i hi))]; exact h2⟩
        · rintro ⟨h1, h2⟩
          have hij : i ≠ j := fun e => by subst e; simp [show i < listed.size by omega] at h2
          rw [getD_set_ne true (Ne.symm hij)] at h2
          have := (hmem i).2 ⟨h1, h2⟩
          rcases List.mem_append.1 this with h | h
          · simp [h]
          · rcases List.mem_cons.1 h with h | h
            · exact absurd h hij
            · simp [h]
      · rw [List.nodup_append]
        exact ⟨hnd'.1, (List.nodup_cons.1 hnd'.2.1).2, fun x hx y hy => hnd'.2.2 x hx y (by simp [hy])⟩
      · intro k o hk hlk e he hb
        by_cases hkj : k = j
        · subst hkj
          rw [hoj] at hk
          cases hk
          exact getD_set_true (hall e he hb)
        · rw [getD_set_ne false (Ne.symm hkj)] at hlk
          exact getD_set_true (hcl k o hk hlk e he hb)


/-- The order that the walk takes, the last operation left out. -/
def canonZ (ops : Array Oper) (n : Nat) (l : List Nat) : Bool := decide (ops.size = n + 1) && (List.range n).all (fun i => l.contains i) && l.all (fun i => decide (i < n)) && decide l.Nodup && decide (l.length ≤ n) && orderG ops (Region.before ops) l && backB ops (Region.before ops) && lastOk n (Region.before ops)
theorem wp_region_hz {id : Nat} {l : List Oper} {o : Oper} {a : Act} {w : World} (hm : P.follows .mixedOrders = true) (canon : List Nat) (hcan : canonZ l.toArray (l.length - 1) canon = true) (hsel : Region.noSelect l.toArray = true) (hok : l.toArray.all (okOp P) = true) (ho : l[l.length - 1]? = some o) (X : Nat → Prop) {L : List Item} (H : HS D W L w) {Q' : Exit → Act → World → Prop}
    (h : ∀ w0, HS D W L w0 → w0.heap.size = w.heap.size → wpH P (Stay X w0) D W w0 l.toArray (fun a F L' => ∀ w', ClH (Stay X w0) D W w0 F L' w' → wpList P l.toArray Q' [o] a w') (canon.filterMap (l.toArray[·]?)) a (fun _ => none) L) : (Code.region id l.toArray true).wp P Q' a w := by
  unfold canonZ at hcan
  simp only [Bool.and_eq_true, List.all_eq_true, decide_eq_true_eq, List.contains_eq_mem] at hcan
  obtain ⟨⟨⟨⟨⟨⟨⟨hsz, h1⟩, h2⟩, h3⟩, hlen⟩, h4⟩, h5⟩, h6⟩ := hcan
  have hd : HS D W L w.drew := H.drew
  have hl1 : l.length = l.length - 1 + 1 := by simpa using hsz
  refine wp_region_any hm (gen_sound_z (St := Stay X w.drew) (D := D) (W := W) (w0 := w.drew) (n := l.length - 1) h5 hsel hok hd.size (fun _ h => h.1) (by simpa using hl1) (fun i hi => ?_) (fun a w' F L hc h => ?_) _ canon _ a w.drew (fun _ => none) L ?_ (fun i => ?_) ?_ h3 h4 ?_ (by simp) ⟨Same.refl _ _, hd, Nat.le_refl _, fun b x hx => by cases hx⟩ (h w.drew hd rfl))
  · exact List.all_eq_true.1 h6 i (List.mem_range.2 hi)
  · have e : (fun a w => wpOp P l.toArray Q' (l.length - 1) (fun a w => Q' .normal a w) a w) = fun a w => wpList P l.toArray Q' [o] a w := by
      funext a w
      unfold wpOp
      rw [List.getElem?_toArray, ho]
      rfl
    have := h w' hc
    exact (congrFun (congrFun e a) w').mpr this
  · simp; omega
  · constructor
    · intro hi
      have h := h2 i hi
      refine ⟨h, ?_⟩
      have h9 : i < l.length := by omega
      simp [h9]
    · exact fun hh => h1 i (List.mem_range.2 hh.1)
  · have h9 : l.length - 1 < l.length := by omega
    simp [h9]
  · intro k o _ hk
    exfalso
    rcases Nat.lt_or_ge k l.toArray.size with hh | hh
    · simp at hh; simp [hh] at hk
    · simp at hh; simp [Nat.not_lt.2 hh] at hk
end
end Go.Proofs.Ytfmcicmbehjdcaa
