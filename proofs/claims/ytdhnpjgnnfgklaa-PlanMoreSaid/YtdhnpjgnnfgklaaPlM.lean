/- Plan (chapter 39): a slice of one's own that a callee turns in place; the stable sort of at most 20 ints. -/
import Derived.Test.YtdhnpjgnnfgklaaPlL
namespace Go.Proofs.Ytdhnpjgnnfgklaa
set_option linter.unusedSimpArgs false
set_option linter.unusedVariables false
open Go.RowKit
set_option maxRecDepth 100000
attribute [local irreducible] wpX wpF Calls

theorem HS.rowStart {w : World} {g n c k : Nat} {e : TypeId} {xs : List Value} (h : w.ownsRow 0 e k (.slice (some ⟨g, 0, none⟩) n c) n xs) : HS (OneD g) w [.row (.slice (some ⟨g, 0, none⟩) n c) e k n xs] w :=
  ⟨rfl, rfl, rfl, Nat.le_refl _, fun _ _ _ => rfl, fun A hA => (by cases List.mem_singleton.1 hA; exact h), fun A hA k hk => (by
    cases List.mem_singleton.1 hA
    have hk' : (Value.slice (some ⟨g, 0, none⟩) n c).ownBlock = some k := hk
    have h9 : g = k := by simpa [Value.ownBlock] using hk'
    exact .inr h9.symm),
   fun A hA => by cases List.mem_singleton.1 hA; exact ⟨Nat.zero_le _, fun k hk => absurd hk (Nat.not_lt_zero _)⟩, List.pairwise_singleton _ _⟩
theorem ownsRow_cut {w : World} {B g n c k m : Nat} {e : TypeId} {xs : List Value} (h : w.ownsRow B e k (.slice (some ⟨g, 0, none⟩) n c) n xs) (hm : m ≤ n) : w.ownsRow B e k (.slice (some ⟨g, 0, none⟩) m c) m (xs.take (m * k)) := by
  obtain ⟨hl, ⟨h2, -⟩ | ⟨g', cap, cur, hv, hg, hh, hnc, hcm, hcs, htk⟩⟩ := h
  · cases h2
  · obtain ⟨he, -, rfl⟩ := Value.slice.inj hv
    have hmk : m * k ≤ n * k := Nat.mul_le_mul_right _ hm
    refine ⟨by rw [List.length_take, hl]; omega, .inr ⟨g', c, cur, by rw [he], hg, hh, by omega, hcm, hcs, ?_⟩⟩
    rw [← htk, List.take_take, Nat.min_eq_left hmk]
theorem HS.rowCut {D : Nat → Prop} {W w : World} {L : List Item} (h : HS D W L w) (i : Nat) {g n c k m : Nat} {e : TypeId} {xs : List Value} (hi : L[i]? = some (.row (.slice (some ⟨g, 0, none⟩) n c) e k n xs)) (hm : m ≤ n) : HS D W (L.set i (.row (.slice (some ⟨g, 0, none⟩) m c) e k m (xs.take (m * k)))) w := by
  have hr : w.ownsRow 0 e k (.slice (some ⟨g, 0, none⟩) n c) n xs := h.at i hi
  rw [set_at _ hi]
  rw [split_at hi] at h
  exact h.swap (X := .row (.slice (some ⟨g, 0, none⟩) n c) e k n xs) (Y := .row (.slice (some ⟨g, 0, none⟩) m c) e k m (xs.take (m * k))) rfl rfl rfl (Nat.le_refl _) (fun k hk hn => rfl) (ownsRow_cut hr hm) (fun k hk => .inl hk) (.inr rfl)
theorem flat_iC (xs : List Int) : xs.flatMap iC = xs.map (Value.int .i64) := by
  induction xs with
  | nil => rfl
  | cons x xs ih => rw [List.flatMap_cons, ih]; rfl
theorem flat_at (xs : List Int) (j : Nat) : (xs.flatMap iC)[j]? = (xs[j]?).map (Value.int .i64) := by rw [flat_iC, List.getElem?_map]
theorem swap_flat (A : List Int) (a e : Int) (R : List Int) : (((A ++ a :: e :: R).flatMap iC).set (A.length + 1) (.int .i64 a)).set A.length (.int .i64 e) = (A ++ e :: a :: R).flatMap iC := by
  rw [flat_iC, flat_iC, List.map_append, List.map_append]
  induction A with
  | nil => rfl
  | cons x A ih => simp
/-- What a stable sort in place hands back. -/
def StableR (R : Int → Int → Prop) (g c : Nat) (xs : List Int) (w : World) (e : Ending) (w' : World) : Prop :=
  e = .returned (.tuple #[]) ∧ ∃ ts : List Int, ts.Perm xs ∧ ts.Pairwise R ∧ HS (OneD g) w [.row (.slice (some ⟨g, 0, none⟩) xs.length c) 3 1 xs.length (ts.flatMap iC)] w'
/-- One more, put in at its place. -/
theorem ins_sorted {R : Int → Int → Prop} (ht : ∀ x y z, R x y → R y z → R x z) {A B : List Int} {e : Int} (h : (A ++ B).Pairwise R) (hB : ∀ b ∈ B, R e b) (hA : A = [] ∨ ∃ A' a, A = A' ++ [a] ∧ R a e) : (A ++ e :: B).Pairwise R := by
  rw [List.pairwise_append] at h ⊢
  refine ⟨h.1, List.pairwise_cons.2 ⟨hB, h.2.1⟩, fun x hx y hy => ?_⟩
  rcases List.mem_cons.1 hy with rfl | hy
  · rcases hA with rfl | ⟨A', a, rfl, hae⟩
    · cases hx
    · rcases List.mem_append.1 hx with hx | hx
      · exact ht _ _ _ ((List.pairwise_append.1 h.1).2.2 x hx a (by simp)) hae
      · rw [List.mem_singleton.1 hx]; exact hae
  · exact h.2.2 x hx y hy
set_option maxHeartbeats 16000000 in
theorem insort_any (gf : Nat) (eg : ∀ args w, (callFunc gf args).run Try.prog w = .ok (.enter gf args) w) (lb : Array Value) (cf : Int → Int → Int) (R : Int → Int → Prop) (h1 : ∀ x y, cf x y < 0 → R x y) (h2 : ∀ x y, ¬ cf x y < 0 → y < x → R y x) (ht : ∀ x y z, R x y → R y z → R x z)
    {g : Nat} (c : Nat) {xs : List Int} (h0 : 0 < xs.length) (hn : xs.length ≤ 20) (hp : xs.Pairwise (· < ·)) (w : World) (hr : w.ownsRow 0 3 1 (.slice (some ⟨g, 0, none⟩) xs.length c) xs.length (xs.flatMap iC))
    (hc : ∀ W x y, x ∈ xs → y ∈ xs → Chg g w W → Calls Try.prog gf (#[.int .i64 x, .int .i64 y] ++ lb) W (Gives (.int .i64 (cf x y)) W)) :
    Calls Try.prog 85 #[.slice (some ⟨g, 0, none⟩) xs.length c, .int .i64 0, .int .i64 xs.length, .func (.func gf) #[] lb] w (StableR R g c xs w) := by
  have HR := Lib.hid hr
  have HC := Lib.hid hc
  have HP := Lib.hid hp
  clear hr hc hp
  go_enter Try.func85, Try.ntmps85
  have H := HS.start NoD w
  clear H
  have H := HS.rowStart HR.out
  have C := H.cells
  try simp only [cellsOf, cellsM, apartOf, apartM, and_true] at C
  go_wp2_with fail
  go_loopw [8] (fun ii wr => ∃ (S Q : List Int), ii = .int .i64 ((S.length : Nat) : Int) ∧ 0 < S.length ∧ S.length + Q.length = xs.length ∧ Hid ((S ++ Q).Perm xs ∧ S.Pairwise R ∧ Q.Pairwise (· < ·) ∧ ∀ x ∈ S, ∀ y ∈ Q, x < y) ∧ HS (OneD g) w [.row (.slice (some ⟨g, 0, none⟩) xs.length c) 3 1 xs.length ((S ++ Q).flatMap iC)] wr) (fun ii _ => xs.length - (intOf ii).toNat)
  case atStart =>
    obtain ⟨x0, xt, rfl⟩ : ∃ x0 xt, xs = x0 :: xt := by
      cases xs with
      | nil => simp at h0
      | cons x0 xt => exact ⟨x0, xt, rfl⟩
    have hp := List.pairwise_cons.1 HP.out
    exact ⟨[x0], xt, rfl, by simp, by simp; omega, (show Hid _ from ⟨List.Perm.refl _, List.pairwise_singleton _ _, hp.2, fun x hx y hy => by rw [List.mem_singleton.1 hx]; exact hp.1 y hy⟩), H⟩
  case round =>
    clear H C
    obtain ⟨S, Q, rfl, hS0, hSQ, HI, H⟩ := hrel
    skip
    try clear C
    try simp only [World.size_alloc, List.nil_append, List.cons_append, List.append_assoc] at H
    have C := H.cells
    try simp only [cellsOf, cellsM, apartOf, apartM, and_true] at C
    have hsl : (S.length : Int) ≤ 20 := by omega
    cases Q with
    | nil =>
      have hSl : ¬ (S.length : Int) < xs.length := by simp at hSQ; omega
      go_wp2_with fail
      go_end0
      obtain ⟨h3, h4, -⟩ := HI.out
      simp only [List.append_nil] at H h3
      exact ⟨rfl, S, h3, h4, H⟩
    | cons e Q =>
      have hSl : (S.length : Int) < xs.length := by simp at hSQ; omega
      go_wp2_with fail
      go_loopw [9] (fun jj wr => ∃ (j : Nat) (A B : List Int), jj = .int .i64 j ∧ A.length = j ∧ Hid (A ++ B = S) ∧ Hid (∀ b ∈ B, R e b) ∧ HS (OneD g) w [.row (.slice (some ⟨g, 0, none⟩) xs.length c) 3 1 xs.length ((A ++ e :: (B ++ Q)).flatMap iC)] wr) (fun jj _ => (intOf jj).toNat)
      case atStart => exact ⟨S.length, S, [], rfl, rfl, (show Hid _ from List.append_nil S), (show Hid _ from fun b hb => absurd hb List.not_mem_nil), H⟩
      case round =>
        clear H C
        obtain ⟨j, A, B, rfl, hjA, HAB, HB, H⟩ := hrel
        skip
        try clear C
        try simp only [World.size_alloc, List.nil_append, List.cons_append, List.append_assoc] at H
        have C := H.cells
        try simp only [cellsOf, cellsM, apartOf, apartM, and_true] at C
        have hABl : A.length + B.length = S.length := by rw [← List.length_append, HAB.out]
        have hout : (A = [] ∨ ∃ A' a, A = A' ++ [a] ∧ R a e) → Hid ((A ++ e :: B ++ Q).Perm xs ∧ (A ++ e :: B).Pairwise R ∧ Q.Pairwise (· < ·) ∧ ∀ x ∈ A ++ e :: B, ∀ y ∈ Q, x < y) := fun hA => by
          obtain ⟨h3, h4, h5, h6⟩ := HI.out
          rw [← HAB.out] at h3 h4 h6
          have h5' := List.pairwise_cons.1 h5
          refine ⟨?_, ins_sorted ht h4 HB.out hA, h5'.2, fun x hx y hy => ?_⟩
          · refine List.Perm.trans ?_ h3
            simp only [List.append_assoc, List.cons_append]
            exact List.Perm.append_left A (List.perm_middle (l₁ := B) (l₂ := Q) (a := e)).symm
          · rcases List.mem_append.1 hx with hx | hx
            · exact h6 x (by simp [hx]) y (by simp [hy])
            · rcases List.mem_cons.1 hx with hx | hx
              · rw [hx]; exact h5'.1 y hy
              · exact h6 x (by simp [hx]) y (by simp [hy])
        have HO := Lib.hid hout
        clear hout
        have HSL := Lib.hid (show S.length < xs.length by omega)
        cases j with
        | zero =>
          have hA0 : A = [] := List.eq_nil_of_length_eq_zero hjA
          subst hA0
          clear hjA
          go_upto_region 4 with fail
          refine wp_region_xH (by kernel_rfl) (by kernel_rfl) (by kernel_rfl) (by kernel_rfl) (fun _ => False) (H) ?_
          clear H; intro w1 H hz0 hs0
          try clear C
          try simp only [World.size_alloc, List.nil_append, List.cons_append, List.append_assoc] at H hz0
          clear hz0
          try clear wr
          have C := H.cells
          try simp only [cellsOf, cellsM, apartOf, apartM, and_true] at C
          have Z := H.zs
          try simp only [ltsOf, ltsM, and_true] at Z
          have hz0 := Nat.le_refl w1.heap.size
          repeat (first | (refine wpX_skip rfl ?_; go_simp) | (refine wpX_free rfl rfl rfl (fun K hK => ?_); go_step; refine hK _ _ ?_; clear hK K) | (refine wpX_load rfl rfl rfl (by simp [Stay, OneD, NoD, *]) hs0 (by simp [*]) (fun K hK => ?_); go_step; refine hK _ _ ?_; clear hK K))
          (refine wpX_nil ?_; go_step)
          go_wp2_with fail
          go_roundw
          case rel =>
            refine ⟨e :: B, Q, by rw [show ((e :: B).length : Nat) = S.length + 1 by simp at hABl ⊢; omega]; go_num, by simp, by simp at hSQ hABl ⊢; omega, HO.out (.inl rfl), ?_⟩
            simpa using H
          case measure => have := HSL.out; simp [intOf]; omega
        | succ m =>
          obtain ⟨A', a, rfl⟩ : ∃ A' a, A = A' ++ [a] := by
            rcases List.eq_nil_or_concat A with rfl | ⟨A', a, h⟩
            · simp at hjA
            · exact ⟨A', a, by rw [h, List.concat_eq_append]⟩
          have hm : A'.length = m := by simp at hjA; omega
          simp only [List.append_assoc, List.cons_append, List.nil_append] at H
          have hmx : m + 1 < xs.length := by simp at hABl; omega
          have hmi : ((m + 1 : Nat) : Int) < xs.length := by omega
          have hm0 : (0 : Int) < ((m + 1 : Nat) : Int) := by omega
          have hm20 : ((m + 1 : Nat) : Int) ≤ 20 := by omega
          have hmw : IntKind.i64.wrap (((m + 1 : Nat) : Int) - 1) = (m : Int) := by rw [IntWalk.i64_in _ (by omega)]; omega
          have hmw2 : (((m + 1 : Nat) : Int) - 1) = (m : Int) := by omega
          have HCE := Lib.hid (fun (wx : World) (hx : HS (OneD g) w [.row (.slice (some ⟨g, 0, none⟩) xs.length c) 3 1 xs.length ((A' ++ a :: e :: (B ++ Q)).flatMap iC)] wx) => show (wx.cell? ⟨g, m + 1, none⟩ = some (.int .i64 e) ∧ wx.cell? ⟨g, m, none⟩ = some (.int .i64 a)) ∧ wx.frozen? ⟨g, m + 1, none⟩ = false ∧ wx.frozen? ⟨g, m, none⟩ = false ∧ g < wx.heap.size from by
            have k1 := hx.rowCells 0 rfl (m + 1) (by omega)
            have k0 := hx.rowCells 0 rfl m (by omega)
            refine ⟨⟨k1.1.trans ?_, k0.1.trans ?_⟩, k1.2, k0.2, hx.lts _ (List.mem_cons_self ..) g rfl⟩
            · rw [flat_at, List.getElem?_append_right (by omega), show m + 1 - A'.length = 1 by omega]; rfl
            · rw [flat_at, List.getElem?_append_right (by omega), show m - A'.length = 0 by omega]; rfl)
          have HSW := Lib.hid (swap_flat A' a e (B ++ Q))
          rw [hm] at HSW
          have hxe : e ∈ xs := HI.out.1.mem_iff.1 (by simp)
          have hxa : a ∈ xs := HI.out.1.mem_iff.1 (by rw [← HAB.out]; simp)
          have hae : a < e := HI.out.2.2.2 a (by rw [← HAB.out]; simp) e (by simp)
          have HCC := Lib.hid (fun W hg => HC.out W e a hxe hxa hg)
          have hc1 := h1 e a
          have hc2 := fun h => h2 e a h hae
          have HC1 := Lib.hid hc1
          have HC2 := Lib.hid hc2
          clear hc1 hc2 hxe hxa hae
          generalize cf e a = v at HCC HC1 HC2
          go_upto_region 4 with fail
          skip
          by_cases hv : v < 0
          · have HV := Lib.hid hv
            refine wp_region_xH (by kernel_rfl) (by kernel_rfl) (by kernel_rfl) (by kernel_rfl) (fun _ => False) (H) ?_
            clear H; intro w2 H hz0 hs0
            try clear C
            try simp only [World.size_alloc, List.nil_append, List.cons_append, List.append_assoc] at H hz0
            clear hz0
            try clear w1
            have C := H.cells
            try simp only [cellsOf, cellsM, apartOf, apartM, and_true] at C
            have Z := H.zs
            try simp only [ltsOf, ltsM, and_true] at Z
            have hz0 := Nat.le_refl w2.heap.size
            obtain ⟨⟨c1, c0⟩, -, -, hgz⟩ := HCE.out _ H
            repeat (first | (refine wpX_skip rfl ?_; go_simp) | (refine wpX_free rfl rfl rfl (fun K hK => ?_); go_step; refine hK _ _ ?_; clear hK K) | (refine wpX_load rfl rfl rfl (by simp [Stay, OneD, NoD, *]) hs0 (by simp [*]) (fun K hK => ?_); go_step; refine hK _ _ ?_; clear hK K))
            refine wpX_eff rfl rfl (fun _ _ => ?_)
            go_step
            refine (HCC.out _ H.doneDice).mono ?_
            rintro _ w3 ⟨rfl, hb⟩
            replace hs0 := hs0.belowS hz0 hb
            replace hz0 := Nat.le_trans hz0 hb.size
            replace H := H.below hb
            clear hb
            try clear C
            have C := H.cells
            try simp only [cellsOf, cellsM, apartOf, apartM, and_true] at C
            try clear w2
            dsimp only
            go_step
            refine ⟨hs0, ?_⟩
            repeat (first | (refine wpX_skip rfl ?_; go_simp) | (refine wpX_free rfl rfl rfl (fun K hK => ?_); go_step; refine hK _ _ ?_; clear hK K) | (refine wpX_load rfl rfl rfl (by simp [Stay, OneD, NoD, *]) hs0 (by simp [*]) (fun K hK => ?_); go_step; refine hK _ _ ?_; clear hK K))
            (refine wpX_nil ?_; go_step)
            clear c0 c1 hgz
            obtain ⟨⟨c1, c0⟩, f1, f0, hgz⟩ := HCE.out _ H
            go_upto_region 6 with fail
            go_region
            have H2 := ((H.rowSet 0 rfl (m + 1) (.int .i64 a)).rowSet 0 rfl m (.int .i64 e)).drew
            simp only [List.set_cons_zero] at H2
            rw [HSW.out] at H2
            generalize hwb : World.drew _ = w9
            have H := HS.eqW hwb H2
            clear H2 hwb c0 c1 f0 f1 hgz
            skip
            try clear C
            try simp only [World.size_alloc, List.nil_append, List.cons_append, List.append_assoc] at H
            have C := H.cells
            try simp only [cellsOf, cellsM, apartOf, apartM, and_true] at C
            go_wp2_with fail
            go_roundw
            case rel =>
              refine ⟨m, A', a :: B, by go_num, hm, (show Hid _ from by rw [← HAB.out]; simp; trivial), (show Hid _ from fun b hb => ?_), H⟩
              rcases List.mem_cons.1 hb with hb | hb
              · rw [hb]; exact HC1.out HV.out
              · exact HB.out b hb
            case measure => simp [intOf]
          · have HV := Lib.hid hv
            skip
            refine wp_region_xH (by kernel_rfl) (by kernel_rfl) (by kernel_rfl) (by kernel_rfl) (fun _ => False) (H) ?_
            clear H; intro w4 H hz0 hs0
            try clear C
            try simp only [World.size_alloc, List.nil_append, List.cons_append, List.append_assoc] at H hz0
            clear hz0
            try clear w1
            have C := H.cells
            try simp only [cellsOf, cellsM, apartOf, apartM, and_true] at C
            have Z := H.zs
            try simp only [ltsOf, ltsM, and_true] at Z
            have hz0 := Nat.le_refl w4.heap.size
            obtain ⟨⟨c1, c0⟩, -, -, hgz⟩ := HCE.out _ H
            repeat (first | (refine wpX_skip rfl ?_; go_simp) | (refine wpX_free rfl rfl rfl (fun K hK => ?_); go_step; refine hK _ _ ?_; clear hK K) | (refine wpX_load rfl rfl rfl (by simp [Stay, OneD, NoD, *]) hs0 (by simp [*]) (fun K hK => ?_); go_step; refine hK _ _ ?_; clear hK K))
            refine wpX_eff rfl rfl (fun _ _ => ?_)
            go_step
            refine (HCC.out _ H.doneDice).mono ?_
            rintro _ w5 ⟨rfl, hb⟩
            replace hs0 := hs0.belowS hz0 hb
            replace hz0 := Nat.le_trans hz0 hb.size
            replace H := H.below hb
            clear hb
            try clear C
            have C := H.cells
            try simp only [cellsOf, cellsM, apartOf, apartM, and_true] at C
            try clear w4
            dsimp only
            go_step
            refine ⟨hs0, ?_⟩
            repeat (first | (refine wpX_skip rfl ?_; go_simp) | (refine wpX_free rfl rfl rfl (fun K hK => ?_); go_step; refine hK _ _ ?_; clear hK K) | (refine wpX_load rfl rfl rfl (by simp [Stay, OneD, NoD, *]) hs0 (by simp [*]) (fun K hK => ?_); go_step; refine hK _ _ ?_; clear hK K))
            (refine wpX_nil ?_; go_step)
            go_wp2_with fail
            go_roundw
            case rel =>
              refine ⟨A' ++ [a] ++ e :: B, Q, by rw [show ((A' ++ [a] ++ e :: B).length : Nat) = S.length + 1 by simp at hABl ⊢; omega]; go_num, by simp; omega, by simp at hSQ hABl ⊢; omega, HO.out (.inr ⟨A', a, rfl, HC2.out (by have := HV.out; omega)⟩), ?_⟩
              simpa using H
            case measure => have := HSL.out; simp [intOf]; omega
end Go.Proofs.Ytdhnpjgnnfgklaa
