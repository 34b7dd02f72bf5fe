/- A region that draws its order, whose last operation looks at all the others: it stands at the end of every order. So what the others load may be stored to by it. -/
import Derived.Test.YtfmcicmbehjdcaaOwn
import Derived.Deep.AppendLies
namespace Go.Proofs.Ytfmcicmbehjdcaa
set_option linter.unusedSimpArgs false
set_option linter.unusedVariables false
open Go.RowKit

/-- The last operation's certificate names all the others. -/
def lastOk (n : Nat) (cert : Array Nat) : Bool := (List.range n).all fun i => (cert.getD n 0).testBit i

section
variable {P : Program} {ops : Array Oper} {σ : SW}

theorem text_sound_z {cert : Array Nat} (hc : certOk ops cert = true) (hsel : Region.noSelect ops = true) {Q' : Exit → Act → World → Prop} {n : Nat} (hn : ops.size = n + 1) (hlast : ∀ i, i < n → (cert.getD n 0).testBit i = true) :
    ∀ (fuel : Nat) (l : List Nat) (listed : Array Bool) (a : Act) (w : World), l.length + 1 ≤ fuel → (∀ i, i ∈ l ↔ i < n ∧ listed.getD i true = false) → listed.getD n true = false → l.Pairwise (· < ·) →
      Closed ops listed → listed.size = ops.size → σ.S w → wpT P ops σ (fun a w => wpOp P ops Q' n (fun a w => Q' .normal a w) a w) l a w → wpAny P .any ops Q' fuel listed a w := by
  intro fuel
  induction fuel with
  | zero => intro l listed a w hl; omega
  | succ fuel ih =>
    intro l listed a w hl hmem hln hpw hcl hsz hs h
    have hunl : ∀ i, i < n → i ∉ l → listed.getD i false = true := fun i hi hnl => by
      have h1 : ¬ listed.getD i true = false := fun hh => hnl ((hmem i).2 ⟨hi, hh⟩)
      have hi' : i < listed.size := by omega
      simp [hi'] at h1 ⊢
      exact h1
    refine ⟨fun hr => ?_, fun j hj => ?_⟩
    · exfalso
      cases l with
      | nil =>
        have hio : ops[n]? = some (ops[n]'(by omega)) := Array.getElem?_eq_getElem (by omega)
        have : n ∈ Region.ready .any ops listed := mem_ready.2 ⟨hln, _, hio, fun e he hb => by
          have hlt := (cert_at hc hio).1 e he hb
          exact hunl e.on hlt (by simp)⟩
        rw [hr] at this
        cases this
      | cons i l =>
        obtain ⟨hi, hi0⟩ := (hmem i).1 (by simp)
        have hio : ops[i]? = some (ops[i]'(by omega)) := Array.getElem?_eq_getElem (by omega)
        have : i ∈ Region.ready .any ops listed := mem_ready.2 ⟨hi0, _, hio, fun e he hb => by
          have hlt := (cert_at hc hio).1 e he hb
          refine hunl e.on (by omega) fun hin => ?_
          rcases List.mem_cons.1 hin with h | h
          · omega
          · have := (List.pairwise_cons.1 hpw).1 _ h; omega⟩
        rw [hr] at this
        cases this
    · obtain ⟨h0, oj, hoj, hall⟩ := mem_ready.1 hj
      have hjlt : j < ops.size := (Array.getElem?_eq_some_iff.1 hoj).1
      by_cases hjn : j = n
      · subst hjn
        have hnil : l = [] := List.eq_nil_iff_forall_not_mem.2 fun i hi => by
          obtain ⟨h1, h2⟩ := (hmem i).1 hi
          have h3 := cert_listed hc hcl j j oj (Nat.le_refl _) hoj hall i h1 (hlast i h1)
          have hi' : i < listed.size := by omega
          simp [hi'] at h2 h3
          rw [h2] at h3; cases h3
        subst hnil
        refine wpOp_mono (fun a' w' hh => ?_) h
        have hnone : Region.ready .any ops (listed.setIfInBounds j true) = [] := by
          refine List.eq_nil_iff_forall_not_mem.2 fun k hk => ?_
          obtain ⟨k0, ok, hok, _⟩ := mem_ready.1 hk
          have hklt : k < ops.size := (Array.getElem?_eq_some_iff.1 hok).1
          by_cases e : k = j
          · subst e
            simp [show k < listed.size by omega] at k0
          · rw [getD_set_ne true (Ne.symm e)] at k0
            have := (hmem k).2 ⟨by omega, k0⟩
            cases this
        cases fuel with
        | zero => exact ⟨hnone, hh⟩
        | succ f => exact ⟨fun _ => hh, fun k hk => by rw [hnone] at hk; cases hk⟩
      · obtain ⟨l1, l2, rfl⟩ := List.append_of_mem ((hmem j).2 ⟨by omega, h0⟩)
        have hpw' := List.pairwise_append.1 hpw
        have hsel' := Region.noSelect_spec hsel
        have hfront := front (P := P) (σ := σ) hoj hsel' l2 l1 (fun i hi => by
          have hij : i < j := hpw'.2.2 i hi j (by simp)
          have hio : ops[i]? = some (ops[i]'(by omega)) := Array.getElem?_eq_getElem (by omega)
          rcases (cert_at hc hoj).2 i hij with ⟨hb, _⟩ | ⟨_, h⟩
          · exfalso
            have h1 := cert_listed hc hcl j j oj (Nat.le_refl _) hoj hall i hij hb
            have h2 := ((hmem i).1 (by simp [hi])).2
            have hi' : i < listed.size := by omega
            simp [hi'] at h1 h2
            rw [h1] at h2; cases h2
          · exact ⟨_, hio, h _ hio⟩) a w h
        refine wpOp_mono (fun a' w' hh => ?_) (stepT_op hs hfront)
        refine ih (l1 ++ l2) _ a' w' (by simp at hl ⊢; omega) (fun i => ?_) (by rw [getD_set_ne true hjn]; exact hln) ?_ ?_ (by simpa using hsz) hh.1 hh.2
        · have hne : ∀ i, i ∈ l1 ++ l2 → i ≠ j := fun i hi e => by
            subst e
            rcases List.mem_append.1 hi with h | h
            · have := hpw'.2.2 i h i (by simp); omega
            · have := (List.pairwise_cons.1 hpw'.2.1).1 i h; omega
          constructor
          · intro hi
            obtain ⟨h1, h2⟩ := (hmem i).1 (by rcases List.mem_append.1 hi with h | h <;> simp [h])
            exact ⟨h1, by rw [getD_set_ne true (Ne.symm (hne i hi))]; exact h2⟩
          · rintro ⟨h1, h2⟩
            have hij : i ≠ j := fun e => by subst e; simp [show i < listed.size by omega] at h2
            rw [getD_set_ne true (Ne.symm hij)] at h2
            have := (hmem i).2 ⟨h1, h2⟩
            rcases List.mem_append.1 this with h | h
            · simp [h]
            · rcases List.mem_cons.1 h with h | h
              · exact absurd h hij
              · simp [h]
        · refine List.pairwise_append.2 ⟨hpw'.1, (List.pairwise_cons.1 hpw'.2.1).2, fun x hx y hy => hpw'.2.2 x hx y (by simp [hy])⟩
        · intro k o hk hlk e he hb
          by_cases hkj : k = j
          · subst hkj
            rw [hoj] at hk
            cases hk
            exact getD_set_true (hall e he hb)
          · rw [getD_set_ne false (Ne.symm hkj)] at hlk
            exact getD_set_true (hcl k o hk hlk e he hb)

theorem wp_region_z {id : Nat} {l body : List Oper} {o : Oper} {a : Act} {w : World} (hm : P.follows .mixedOrders = true) (hc : certOk l.toArray (Region.before l.toArray) = true) (hlast : lastOk (l.length - 1) (Region.before l.toArray) = true) (hsel : Region.noSelect l.toArray = true) (hok : l.toArray.all (okOp P) = true)
    (hb : l.dropLast = body) (ho : l.getLast? = some o) (S : World → Prop) (hS : S w.drew) {Q' : Exit → Act → World → Prop}
    (h : ∀ w0 (h0 : S w0), w0 = w.drew → wpX P l.toArray ⟨S, w0, h0⟩ (fun a w => wpList P l.toArray Q' [o] a w) body a w0) : (Code.region id l.toArray true).wp P Q' a w := by
  have hl : l = body ++ [o] := by
    rw [← hb]
    have hne : l ≠ [] := by rintro rfl; simp at ho
    have h1 := List.getLast?_eq_some_getLast hne
    rw [ho] at h1
    have h2 := List.dropLast_concat_getLast hne
    rw [← Option.some.inj h1] at h2
    exact h2.symm
  have hlen : l.length = body.length + 1 := by rw [hl]; simp
  have h2 := h w.drew hS rfl
  have hops : ∀ j, j < body.length → l.toArray[0 + j]? = body[j]? := fun j hj => by
    rw [Nat.zero_add, List.getElem?_toArray, hl, List.getElem?_append_left hj]
  have h3 := wpT_of_wpX (P := P) (ops := l.toArray) (σ := ⟨S, w.drew, hS⟩) hok body 0 hops a w.drew h2
  have hlo : l.toArray[body.length]? = some o := by rw [List.getElem?_toArray, hl]; simp
  refine wp_region_any hm (text_sound_z (σ := ⟨S, w.drew, hS⟩) (n := body.length) hc hsel (by simp [hlen]) (fun i hi => ?_) l.toArray.size (List.range' 0 body.length) _ a w.drew (by simp [hlen]) (fun i => ?_) (by simp [hlen]) ?_ ?_ (by simp) hS ?_)
  · have := List.all_eq_true.1 hlast i (List.mem_range.2 (by rw [hlen]; simpa using hi))
    rw [show l.length - 1 = body.length by omega] at this
    exact this
  · simp only [List.mem_range'_1, Nat.zero_le, Nat.zero_add, true_and]
    constructor
    · intro hi; exact ⟨hi, by have h9 : i < body.length + 1 := by omega
                              simp [hlen, h9]⟩
    · exact fun h => h.1
  · exact List.pairwise_lt_range'
  · intro k o _ hk
    exfalso
    rcases Nat.lt_or_ge k l.toArray.size with h | h
    · simp at h; simp [h] at hk
    · simp at h; simp [Nat.not_lt.2 h] at hk
  · have e : (fun a w => wpOp P l.toArray Q' body.length (fun a w => Q' .normal a w) a w) = fun a w => wpList P l.toArray Q' [o] a w := by
      funext a w
      unfold wpOp
      rw [hlo]
      rfl
    rw [e]
    exact h3
theorem wp_region_zH {D : Nat → Prop} {W : World} {L : List Item} {id : Nat} {l body : List Oper} {o : Oper} {a : Act} {w : World} (hm : P.follows .mixedOrders = true) (hc : certOk l.toArray (Region.before l.toArray) = true) (hlast : lastOk (l.length - 1) (Region.before l.toArray) = true) (hsel : Region.noSelect l.toArray = true) (hok : l.toArray.all (okOp P) = true)
    (hb : l.dropLast = body) (ho : l.getLast? = some o) (S : World → Prop) (H : HS D W L w) (hS : ∀ w0, HS D W L w0 → w0.heap.size = w.heap.size → S w0) {Q' : Exit → Act → World → Prop}
    (h : ∀ w0 (h0 : S w0), HS D W L w0 → w0.heap.size = w.heap.size → wpX P l.toArray ⟨S, w0, h0⟩ (fun a w => wpList P l.toArray Q' [o] a w) body a w0) : (Code.region id l.toArray true).wp P Q' a w :=
  wp_region_z hm hc hlast hsel hok hb ho S (hS _ H.drew rfl) fun w0 h0 hw0 => h w0 h0 (by rw [hw0]; exact H.drew) (by rw [hw0]; rfl)
/-- 'append' onto a slice of one's own, in a region that is walked in its text's order. -/
theorem wpX_append_H {D : Nat → Prop} {W : World} {L : List Item} {a : Act} {w : World} {o : Oper} {rest : List Oper} {Q : Act → World → Prop} (hw : Region.wanted o (yielded ops a.tmps) = true) (he : effOp o.op = true) (s x : Operand) (t : TypeId)
    (ho : o.op = .call { callee := .builtin .append, args := #[s, x], argTypes := #[t, t] }) {e : TypeId} {z : Value} {size bytes : Nat} (hE : Elem P t e z size bytes)
    (H : HS D W L w) (k : Nat) {v : Value} {n : Nat} {xs : List Value} (hk : L[k]? = some (.row v e size n xs)) (hs : a.eval s = v)
    {b : Nat} {cs : Array Value} {tt : TypeId} {m c : Nat} (j : Nat) (hj : L[j]? = some (.blk b cs tt)) (hx : a.eval x = .slice (some ⟨b, 0, none⟩) m c) (hl : cs.size = m * size) (h1 : cs.toList.all (·.oneCell') = true)
    (hm : 0 < m) (h63 : n + m ≤ maxLen) (hbytes : (n + m) * bytes ≤ 140737488355328)
    (h : ∀ g cap w', HS D W (L.set k (.row (.slice (some ⟨g, 0, none⟩) (n + m) cap) e size (n + m) (xs ++ cs.toList))) w' → w.heap.size ≤ w'.heap.size → σ.S w' ∧ wpX P ops σ Q rest (a.put o.dst (.slice (some ⟨g, 0, none⟩) (n + m) cap)) w') : wpX P ops σ Q (o :: rest) a w := by
  obtain ⟨i, i1, i2, i3, i4⟩ := hE.hi
  have hb : w.heap[b]? = some (.cells cs tt (0, 0)) := H.at j hj
  refine wpX_eff hw he fun K hK => ?_
  exact wp_append_lies w s x t ho 0 e i z size bytes hE.ht i1 i2 i3 i4 hE.hzs hE.pos v n xs hs (H.at k hk) ⟨b, 0, none⟩ m c cs.toList hx (by simpa using hl) (World.news_of_block hb) (fun u hu => List.all_eq_true.1 h1 u hu) hm h63 hbytes (Nat.zero_le _) w.heap.size rfl
    fun g cap w' h2 h3 h4 h5 => hK _ _ (h g cap w' (grown_row H k hk h2 h3 h4) h3.size)
end
end Go.Proofs.Ytfmcicmbehjdcaa
